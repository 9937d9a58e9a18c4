/- Joined. -/
import Derived.Test.YteeikpjhfdjjfaaGreatDoorBase55
set_option maxRecDepth 100000
namespace Go.Hem
abbrev qI (d : Nat) (c : COp) : CI:=⟨some d,none,c,[]⟩
abbrev uI (d g : Nat) (c : COp) : CI:=⟨some d,some (some g,false),c,[]⟩
abbrev vI (d g : Nat) (c : COp) : CI:=⟨some d,some (some g,true),c,[]⟩
abbrev nI (c : COp) : CI:=⟨none,none,c,[]⟩
abbrev mI (d s : Nat) : CI:=⟨some d,none,.mv (.tmp s),[]⟩
abbrev sO (l : List CI) (k : CC) : CC:=.seq (.ops l) k
abbrev cI (n : Int) : Operand:=.const (.int .i64 n)
abbrev bT : Operand:=.const (.bool true)
abbrev bF : Operand:=.const (.bool false)
abbrev z0 : Operand:=.tmp 0
abbrev z1 : Operand:=.tmp 1
abbrev z2 : Operand:=.tmp 2
abbrev z3 : Operand:=.tmp 3
abbrev z4 : Operand:=.tmp 4
abbrev z5 : Operand:=.tmp 5
abbrev z6 : Operand:=.tmp 6
abbrev z7 : Operand:=.tmp 7
abbrev z8 : Operand:=.tmp 8
abbrev z9 : Operand:=.tmp 9
abbrev z10 : Operand:=.tmp 10
abbrev z11 : Operand:=.tmp 11
abbrev z12 : Operand:=.tmp 12
abbrev z13 : Operand:=.tmp 13
abbrev z14 : Operand:=.tmp 14
abbrev z15 : Operand:=.tmp 15
abbrev z16 : Operand:=.tmp 16
abbrev z17 : Operand:=.tmp 17
abbrev z18 : Operand:=.tmp 18
abbrev z19 : Operand:=.tmp 19
abbrev z20 : Operand:=.tmp 20
abbrev z21 : Operand:=.tmp 21
abbrev z22 : Operand:=.tmp 22
abbrev z23 : Operand:=.tmp 23
abbrev z24 : Operand:=.tmp 24
abbrev z25 : Operand:=.tmp 25
abbrev z26 : Operand:=.tmp 26
abbrev z27 : Operand:=.tmp 27
abbrev z28 : Operand:=.tmp 28
abbrev z29 : Operand:=.tmp 29
abbrev z30 : Operand:=.tmp 30
abbrev z31 : Operand:=.tmp 31
abbrev z32 : Operand:=.tmp 32
abbrev z33 : Operand:=.tmp 33
abbrev z34 : Operand:=.tmp 34
abbrev z35 : Operand:=.tmp 35
abbrev z36 : Operand:=.tmp 36
abbrev z37 : Operand:=.tmp 37
abbrev z38 : Operand:=.tmp 38
abbrev z39 : Operand:=.tmp 39
abbrev z40 : Operand:=.tmp 40
abbrev z41 : Operand:=.tmp 41
abbrev z42 : Operand:=.tmp 42
abbrev z43 : Operand:=.tmp 43
abbrev z44 : Operand:=.tmp 44
abbrev z45 : Operand:=.tmp 45
abbrev z46 : Operand:=.tmp 46
abbrev z47 : Operand:=.tmp 47
abbrev z48 : Operand:=.tmp 48
abbrev z49 : Operand:=.tmp 49
abbrev z50 : Operand:=.tmp 50
abbrev z51 : Operand:=.tmp 51
abbrev z52 : Operand:=.tmp 52
abbrev z53 : Operand:=.tmp 53
abbrev z54 : Operand:=.tmp 54
abbrev z55 : Operand:=.tmp 55
abbrev z56 : Operand:=.tmp 56
abbrev z57 : Operand:=.tmp 57
abbrev z58 : Operand:=.tmp 58
abbrev z59 : Operand:=.tmp 59
abbrev z60 : Operand:=.tmp 60
abbrev z61 : Operand:=.tmp 61
abbrev z62 : Operand:=.tmp 62
abbrev z63 : Operand:=.tmp 63
abbrev z64 : Operand:=.tmp 64
abbrev z65 : Operand:=.tmp 65
abbrev z66 : Operand:=.tmp 66
abbrev z67 : Operand:=.tmp 67
abbrev z68 : Operand:=.tmp 68
abbrev z69 : Operand:=.tmp 69
abbrev z70 : Operand:=.tmp 70
abbrev z71 : Operand:=.tmp 71
abbrev z72 : Operand:=.tmp 72
abbrev z73 : Operand:=.tmp 73
abbrev z74 : Operand:=.tmp 74
abbrev z75 : Operand:=.tmp 75
abbrev z76 : Operand:=.tmp 76
abbrev z77 : Operand:=.tmp 77
abbrev z78 : Operand:=.tmp 78
abbrev z79 : Operand:=.tmp 79
abbrev z80 : Operand:=.tmp 80
abbrev z81 : Operand:=.tmp 81
abbrev z82 : Operand:=.tmp 82
abbrev z83 : Operand:=.tmp 83
abbrev z84 : Operand:=.tmp 84
abbrev z85 : Operand:=.tmp 85
abbrev z86 : Operand:=.tmp 86
abbrev z87 : Operand:=.tmp 87
abbrev z88 : Operand:=.tmp 88
abbrev z89 : Operand:=.tmp 89
abbrev z90 : Operand:=.tmp 90
abbrev z91 : Operand:=.tmp 91
abbrev z92 : Operand:=.tmp 92
abbrev z93 : Operand:=.tmp 93
abbrev z94 : Operand:=.tmp 94
abbrev z95 : Operand:=.tmp 95
abbrev z96 : Operand:=.tmp 96
abbrev z97 : Operand:=.tmp 97
abbrev z98 : Operand:=.tmp 98
abbrev z99 : Operand:=.tmp 99
abbrev z100 : Operand:=.tmp 100
abbrev z101 : Operand:=.tmp 101
abbrev z102 : Operand:=.tmp 102
abbrev z103 : Operand:=.tmp 103
abbrev z104 : Operand:=.tmp 104
abbrev z105 : Operand:=.tmp 105
abbrev z106 : Operand:=.tmp 106
abbrev z107 : Operand:=.tmp 107
abbrev z108 : Operand:=.tmp 108
abbrev z109 : Operand:=.tmp 109
abbrev z110 : Operand:=.tmp 110
abbrev z111 : Operand:=.tmp 111
abbrev z112 : Operand:=.tmp 112
abbrev z113 : Operand:=.tmp 113
abbrev z114 : Operand:=.tmp 114
abbrev z115 : Operand:=.tmp 115
abbrev z116 : Operand:=.tmp 116
abbrev z117 : Operand:=.tmp 117
abbrev z118 : Operand:=.tmp 118
abbrev z119 : Operand:=.tmp 119
abbrev z120 : Operand:=.tmp 120
abbrev z121 : Operand:=.tmp 121
abbrev z122 : Operand:=.tmp 122
abbrev z123 : Operand:=.tmp 123
abbrev z124 : Operand:=.tmp 124
abbrev z125 : Operand:=.tmp 125
abbrev z126 : Operand:=.tmp 126
abbrev z127 : Operand:=.tmp 127
abbrev z128 : Operand:=.tmp 128
abbrev z129 : Operand:=.tmp 129
abbrev z130 : Operand:=.tmp 130
abbrev z131 : Operand:=.tmp 131
abbrev z132 : Operand:=.tmp 132
abbrev z133 : Operand:=.tmp 133
abbrev z134 : Operand:=.tmp 134
abbrev z135 : Operand:=.tmp 135
abbrev z136 : Operand:=.tmp 136
abbrev z137 : Operand:=.tmp 137
abbrev z138 : Operand:=.tmp 138
abbrev z139 : Operand:=.tmp 139
abbrev z140 : Operand:=.tmp 140
abbrev z141 : Operand:=.tmp 141
abbrev z142 : Operand:=.tmp 142
abbrev z143 : Operand:=.tmp 143
abbrev z144 : Operand:=.tmp 144
abbrev z145 : Operand:=.tmp 145
abbrev z146 : Operand:=.tmp 146
abbrev z147 : Operand:=.tmp 147
abbrev z148 : Operand:=.tmp 148
abbrev z149 : Operand:=.tmp 149
abbrev z150 : Operand:=.tmp 150
abbrev z151 : Operand:=.tmp 151
abbrev z152 : Operand:=.tmp 152
abbrev z153 : Operand:=.tmp 153
abbrev z154 : Operand:=.tmp 154
abbrev z155 : Operand:=.tmp 155
abbrev z156 : Operand:=.tmp 156
abbrev z157 : Operand:=.tmp 157
abbrev z158 : Operand:=.tmp 158
abbrev z159 : Operand:=.tmp 159
abbrev z160 : Operand:=.tmp 160
abbrev z161 : Operand:=.tmp 161
abbrev z162 : Operand:=.tmp 162
abbrev z163 : Operand:=.tmp 163
abbrev z164 : Operand:=.tmp 164
abbrev z165 : Operand:=.tmp 165
abbrev z166 : Operand:=.tmp 166
abbrev z167 : Operand:=.tmp 167
abbrev z168 : Operand:=.tmp 168
abbrev z169 : Operand:=.tmp 169
abbrev z170 : Operand:=.tmp 170
abbrev z171 : Operand:=.tmp 171
abbrev z172 : Operand:=.tmp 172
abbrev z173 : Operand:=.tmp 173
abbrev z174 : Operand:=.tmp 174
abbrev z175 : Operand:=.tmp 175
abbrev z176 : Operand:=.tmp 176
abbrev z177 : Operand:=.tmp 177
abbrev z178 : Operand:=.tmp 178
abbrev z179 : Operand:=.tmp 179
abbrev z180 : Operand:=.tmp 180
abbrev z181 : Operand:=.tmp 181
abbrev z182 : Operand:=.tmp 182
abbrev z183 : Operand:=.tmp 183
abbrev z184 : Operand:=.tmp 184
abbrev z185 : Operand:=.tmp 185
abbrev z186 : Operand:=.tmp 186
abbrev d0 : CI:=mI 6 0
abbrev d1 : CI:=mI 3 0
abbrev d2 : CI:=mI 7 0
abbrev d3 : COp:=.mv z0
abbrev d4 : CI:=mI 5 0
abbrev d5 : COp:=.mv z1
abbrev d6 : CI:=mI 9 0
abbrev d7 : CI:=mI 4 0
abbrev d8 : COp:=.mv z2
abbrev d9 : CI:=mI 6 1
abbrev d10 : CC:=.exit 0
abbrev d11 : CC:=.exit 2
abbrev d12 : CI:=mI 10 9
abbrev d13 : CI:=mI 15 0
abbrev d14 : CI:=mI 11 0
abbrev d15 : CI:=mI 5 15
abbrev d16 : CI:=mI 16 0
abbrev d17 : CI:=mI 17 5
abbrev d18 : CI:=mI 20 1
abbrev d19 : CI:=mI 14 0
abbrev d20 : CI:=mI 11 1
abbrev d21 : CI:=mI 12 0
abbrev d22 : CI:=mI 13 0
abbrev d23 : CC:=.exit 4
abbrev d24 : CI:=mI 15 13
abbrev d25 : CI:=mI 11 10
abbrev d26 : COp:=.load1 z1
abbrev d27 : COp:=.load1 z3
abbrev d28 : COp:=.load1 z2
abbrev d29 : COp:=.mv (cI 0)
abbrev d30 : COp:=.load1 z27
abbrev d31 : COp:=.mv (cI 1)
abbrev d32 : COp:=.mv (cI 2)
abbrev d33 : COp:=.load1 z64
abbrev d34 : COp:=.load1 z72
abbrev d35 : COp:=.faddr 2 z1
abbrev d36 : COp:=.faddr 3 z1
abbrev d37 : COp:=.faddr 5 z1
abbrev d38 : COp:=.loadN 6 z1
abbrev d39 : COp:=.faddr 0 z2
abbrev d40 : COp:=.loadN 2 z5
abbrev d41 : COp:=.faddr 0 z3
abbrev d42 : COp:=.faddr 2 z3
abbrev d43 : COp:=.faddr 3 z3
abbrev d44 : COp:=.faddr 5 z3
abbrev d45 : COp:=.faddr 0 z1
abbrev d46 : COp:=.loadN 2 z3
abbrev d47 : COp:=.faddr 1 z2
abbrev d48 : COp:=.faddr 1 z3
abbrev d49 : COp:=.faddr 0 z4
abbrev d50 : COp:=.faddr 0 z5
abbrev d51 : COp:=.faddr 0 z9
abbrev d52 : COp:=.faddr 1 z1
abbrev d53 : COp:=.loadN 2 z4
abbrev d54 : COp:=.faddr 1 z8
abbrev d55 : COp:=.faddr 4 z3
abbrev d56 : COp:=.loadN 6 z2
abbrev d57 : COp:=.faddr 1 z4
abbrev d58 : COp:=.faddr 3 z4
abbrev d59 : COp:=.faddr 10 z1
abbrev d60 : COp:=.faddr 0 z12
abbrev d61 : COp:=.loadN 13 z1
abbrev d62 : COp:=.faddr 1 z10
abbrev d63 : COp:=.faddr 0 z11
abbrev d64 : CI:=qI 4 (.mv bF)
abbrev d65 : CI:=qI 6 (.mv bF)
abbrev d66 : CI:=qI 2 (.mv bF)
abbrev d67 : CI:=qI 5 (.mv bF)
abbrev d68 : CI:=qI 3 (.mv bF)
abbrev d69 : CI:=qI 5 (.mv bT)
abbrev d70 : CI:=qI 1 (.box z0)
abbrev d71 : CI:=qI 2 (.box z0)
abbrev d72 : CI:=qI 3 (.box z1)
abbrev d73 : CI:=qI 7 (.len z6)
abbrev d74 : CI:=qI 8 (.len z7)
abbrev d75 : CI:=qI 4 (.box z1)
abbrev d76 : CI:=qI 3 (.box z0)
abbrev d77 : CI:=qI 4 (.nilc z3)
abbrev d78 : CI:=qI 7 (.nilc z6)
abbrev d79 : CI:=qI 6 (.nilc z5)
abbrev d80 : CI:=qI 9 (.nilc z8)
abbrev d81 : CI:=qI 11 (.len z10)
abbrev d82 : CI:=qI 16 (.len z15)
abbrev d83 : CI:=qI 30 (.not z29)
abbrev d84 : CI:=qI 12 (.len z11)
abbrev d85 : CI:=qI 7 (.load1 z6)
abbrev d86 : CI:=qI 9 (.load1 z8)
abbrev d87 : CI:=qI 14 (.len z13)
abbrev d88 : CI:=qI 8 (.load1 z7)
abbrev d89 : CI:=qI 6 (.load1 z5)
abbrev d90 : CI:=qI 2 d26
abbrev d91 : CI:=qI 5 (.load1 z4)
abbrev d92 : CI:=qI 18 (.len z17)
abbrev d93 : CI:=qI 4 d27
abbrev d94 : CI:=qI 5 d26
abbrev d95 : CI:=qI 22 (.len z21)
abbrev d96 : CI:=qI 19 (.len z18)
abbrev d97 : CI:=qI 10 (.nilc z9)
abbrev d98 : CI:=qI 10 (.load1 z9)
abbrev d99 : CI:=qI 12 (.nilc z11)
abbrev d100 : CI:=qI 6 d29
abbrev d101 : CI:=qI 7 d29
abbrev d102 : CI:=qI 2 d29
abbrev d103 : CI:=qI 4 d29
abbrev d104 : CI:=qI 8 d29
abbrev d105 : CI:=qI 3 d29
abbrev d106 : CI:=qI 15 (.nilc z14)
abbrev d107 : CI:=qI 5 d29
abbrev d108 : CI:=qI 14 (.nilc z13)
abbrev d109 : CI:=qI 4 d31
abbrev d110 : CI:=qI 13 (.nilc z12)
abbrev d111 : CI:=qI 16 (.nilc z15)
abbrev d112 : CI:=qI 14 (.load1 z13)
abbrev d113 : CI:=qI 16 d29
abbrev d114 : CI:=qI 27 (.load1 z26)
abbrev d115 : CI:=qI 31 (.load1 z30)
abbrev d116 : CI:=qI 46 (.load1 z45)
abbrev d117 : CI:=qI 49 (.load1 z48)
abbrev d118 : CI:=qI 5 d39
abbrev d119 : CI:=qI 7 d41
abbrev d120 : CI:=qI 17 d29
abbrev d121 : CI:=qI 13 d29
abbrev d122 : CI:=qI 15 d29
abbrev d123 : CI:=qI 20 (.load1 z19)
abbrev d124 : CI:=qI 3 d45
abbrev d125 : CI:=qI 12 (.load1 z11)
abbrev d126 : CI:=qI 16 (.load1 z15)
abbrev d127 : CI:=qI 18 (.load1 z17)
abbrev d128 : CI:=qI 22 (.load1 z21)
abbrev d129 : CI:=qI 24 (.load1 z23)
abbrev d130 : CI:=qI 26 (.load1 z25)
abbrev d131 : CI:=qI 15 (.load1 z14)
abbrev d132 : CI:=qI 28 d30
abbrev d133 : CI:=qI 38 (.load1 z37)
abbrev d134 : CI:=qI 11 (.load1 z10)
abbrev d135 : CI:=qI 19 (.load1 z18)
abbrev d136 : CI:=qI 37 (.load1 z36)
abbrev d137 : CI:=qI 40 (.load1 z39)
abbrev d138 : CI:=qI 54 (.load1 z53)
abbrev d139 : CI:=qI 57 (.load1 z56)
abbrev d140 : CI:=qI 60 (.load1 z59)
abbrev d141 : CI:=qI 66 (.load1 z65)
abbrev d142 : CI:=qI 50 (.load1 z49)
abbrev d143 : CI:=qI 6 d45
abbrev d144 : CI:=uI 9 7 (.load1 z8)
abbrev d145 : CI:=qI 19 d29
abbrev d146 : CI:=qI 13 (.load1 z12)
abbrev d147 : CI:=qI 33 (.load1 z32)
abbrev d148 : CI:=qI 23 (.load1 z22)
abbrev d149 : CI:=qI 39 (.load1 z38)
abbrev d150 : CI:=qI 44 (.load1 z43)
abbrev d151 : CI:=qI 7 (.faddr 1 z6)
abbrev d152 : CI:=qI 51 (.load1 z50)
abbrev d153 : CI:=qI 47 (.load1 z46)
abbrev d154 : CI:=qI 49 d29
abbrev d155 : CI:=qI 12 d29
abbrev d156 : CI:=qI 17 (.load1 z16)
abbrev d157 : CI:=qI 25 (.load1 z24)
abbrev d158 : CI:=qI 21 (.load1 z20)
abbrev d159 : CI:=qI 76 (.load1 z75)
abbrev d160 : CI:=qI 20 d29
abbrev d161 : CI:=qI 36 (.load1 z35)
abbrev d162 : CI:=qI 41 (.load1 z40)
abbrev d163 : COp:=.alloc [.sc .nilf]
abbrev d164 : CI:=qI 29 (.load1 z28)
abbrev d165 : CI:=qI 53 (.load1 z52)
abbrev d166 : CI:=qI 10 (.faddr 1 z9)
abbrev d167 : CI:=qI 23 (.loadN 2 z22)
abbrev d168 : CI:=qI 18 (.loadN 2 z17)
abbrev d169 : CI:=qI 13 d60
abbrev d170 : COp:=.bint .add z8 (cI 1)
abbrev d171 : CI:=qI 12 (.loadN 6 z11)
abbrev d172 : CI:=qI 25 (.faddr 0 z24)
abbrev d173 : CI:=qI 26 (.loadN 6 z25)
abbrev d174 : CI:=qI 19 (.faddr 1 z18)
abbrev d175 : CI:=qI 15 (.faddr 0 z14)
abbrev d176 : CI:=qI 22 (.faddr 0 z21)
abbrev d177 : CI:=qI 15 (.loadN 2 z14)
abbrev d178 : CI:=qI 11 (.faddr 0 z10)
abbrev d179 : CI:=qI 16 (.faddr 1 z15)
abbrev d180 : COp:=.bint .add z16 (cI 1)
abbrev d181 : COp:=.bint .add z33 (cI 1)
abbrev d182 : CI:=vI 12 10 (.load1 z11)
abbrev d183 : CI:=vI 14 10 (.load1 z13)
abbrev d184 : COp:=.bint .add z17 (cI 1)
abbrev d185 : COp:=.bint .add z13 (cI 1)
abbrev d186 : COp:=.bint .add z15 (cI 1)
abbrev d187 : CI:=uI 18 16 (.load1 z17)
abbrev d188 : COp:=.bint .add z19 (cI 1)
abbrev d189 : COp:=.bint .add z26 (cI 1)
abbrev d190 : COp:=.bint .add z20 (cI 1)
abbrev d191 : COp:=.bint .add z11 (cI 1)
abbrev d192 : CI:=nI (.store 1 z23 z22)
abbrev d193 : COp:=.bint .add z66 (cI 1)
abbrev d194 : CI:=nI (.store 1 z16 z14)
abbrev d195 : COp:=.bint .add z34 (cI 1)
abbrev d196 : COp:=.bint .add z49 (cI 1)
abbrev d197 : COp:=.bint .add z12 (cI 1)
abbrev d198 : CI:=uI 13 11 (.load1 z12)
abbrev d199 : CI:=uI 17 16 d52
abbrev d200 : CI:=qI 10 (.callv z8 [z9])
abbrev d201 : COp:=.mv (.const .nilIface)
abbrev d202 : CC:=sO [d65] .ret
abbrev d203 : CC:=sO [qI 6 (.mv bT)] .ret
abbrev d204 : CC:=sO [d64] .ret
abbrev d205 : CC:=sO [qI 4 (.mv bT)] .ret
abbrev d206 : CI:=qI 9 (.bint .lss z8 z7)
abbrev d207 : CC:=sO [d67] .ret
abbrev d208 : CI:=qI 11 (.pick z7 bT z10)
abbrev d209 : CI:=qI 16 (.pick z10 z15 bF)
abbrev d210 : CI:=qI 23 (.pick z17 z22 bF)
abbrev d211 : CI:=qI 17 (.iaddr 2 z13 z15)
abbrev d212 : CI:=qI 4 (.call 171 [z2,z3])
abbrev d213 : CC:=.cond z9 .skip d10
abbrev d214 : CI:=qI 16 (.callv z11 [z15])
abbrev d215 : CI:=qI 38 (.pick z33 bT z37)
abbrev d216 : CI:=qI 20 (.pick z16 bT z19)
abbrev d217 : CC:=.cond z18 .skip d10
abbrev d218 : CC:=.cond z14 .skip d10
abbrev d219 : CC:=.cond z16 .skip d10
abbrev d220 : CC:=.cond z12 .skip d10
abbrev d221 : CC:=.cond z25 .skip d10
abbrev d222 : CC:=.cond z13 .skip d10
abbrev d223 : CC:=.cond z19 .skip d10
abbrev d224 : CI:=qI 18 (.bint .lss z17 z16)
abbrev d225 : CI:=qI 14 (.bint .lss z13 z12)
abbrev d226 : CI:=qI 16 (.bint .lss z15 z14)
abbrev d227 : COp:=.alloc [.sc (.int .i64 0)]
abbrev d228 : CI:=qI 20 (.bint .lss z19 z18)
abbrev d229 : CI:=qI 50 (.bint .lss z49 z48)
abbrev d230 : CI:=qI 13 (.bint .lss z12 z11)
abbrev d231 : CC:=sO [qI 2 d32] .ret
abbrev d232 : CC:=sO [d102] .ret
abbrev d233 : CI:=qI 8 (.bint .neq z7 (cI 0))
abbrev d234 : CI:=qI 8 (.bint .geq z7 (cI 0))
abbrev d235 : CC:=sO [qI 4 d32] .ret
abbrev d236 : CC:=sO [d103] .ret
abbrev d237 : CI:=qI 29 (.callv z26 [z27,z28])
abbrev d238 : COp:=.alloc [.sc .nils,.sc .nils]
abbrev d239 : CC:=sO [qI 2 (.mv (cI 17))] .ret
abbrev d240 : CI:=qI 2 (.mv (.const .nilFunc))
abbrev d241 : CI:=qI 10 (.bint .lss z9 (cI 0))
abbrev d242 : COp:=.mv (.const (.string ⟨#[]⟩))
abbrev d243 : CI:=qI 17 (.bint .neq z16 (cI 0))
abbrev d244 : CI:=qI 19 (.bint .neq z18 (cI 0))
abbrev d245 : COp:=.mv (.const (.slice none 0 0))
abbrev d246 : CC:=sO [qI 4 (.mv (cI (-1)))] .ret
abbrev d247 : CI:=qI 9 d227
abbrev d248 : CI:=qI 2 (.mv (.const (.int .u64 0)))
abbrev d249 : CI:=qI 6 d227
abbrev d250 : CI:=qI 5 d238
abbrev d251 : CI:=qI 8 d238
abbrev d252 : CI:=qI 9 d238
abbrev d253 : CI:=uI 44 39 (.call 155 [z41,cI 0,z43])
abbrev d254 : CI:=qI 2 d238
abbrev d255 : CI:=qI 3 d238
abbrev d256 : CI:=qI 2 d242
abbrev d257 : CI:=qI 9 (.bagg false [.int,.int] z6 z8)
abbrev d258 : CI:=qI 2 d245
abbrev d259 : CI:=qI 4 d245
abbrev d260 : CI:=qI 0 d245
abbrev d261 : CI:=qI 3 d245
abbrev d262 : CI:=qI 5 d245
abbrev d263 : CI:=qI 8 d245
abbrev d264 : CC:=.cond z30 d202 .skip
abbrev d265 : CC:=.cond z24 d204 .skip
abbrev d266 : CC:=sO [d103,d69] .ret
abbrev d267 : CC:=.cond z16 (sO [d17,mI 4 17] .ret) .skip
abbrev d268 : CC:=.ops [qI 18 d170,mI 8 18]
abbrev d269 : COp:=.alloc [.sc (.str ⟨#[]⟩),.sc (.int .i64 0)]
abbrev d270 : COp:=.alloc [.sc (.int .i64 0),.sc (.int .i64 0)]
abbrev d271 : CC:=.cond z9 (sO [qI 2 (.mv (cI 9))] .ret) .skip
abbrev d272 : CC:=.ops [qI 31 d184,mI 17 31]
abbrev d273 : CC:=.ops [qI 25 d185,mI 13 25]
abbrev d274 : CC:=.ops [qI 30 d184,mI 17 30]
abbrev d275 : CC:=.ops [qI 31 (.bint .add z14 (cI 1)),mI 14 31]
abbrev d276 : COp:=.build [.sc (.int .i64 0),.sc (.int .i64 0)] []
abbrev d277 : CI:=qI 2 d270
abbrev d278 : CI:=qI 3 d270
abbrev d279 : CI:=qI 40 (.bslice 1 1 [.sc (.int .i64 0)] [(0,(1,z39))])
abbrev d280 : COp:=.alloc [.sc .nils,.sc (.str ⟨#[]⟩),.sc (.int .i64 0)]
abbrev d281 : COp:=.build [.sc (.int .i64 0),.sc (.int .i64 0)] [(1,(1,cI 4))]
abbrev d282 : CC:=sO [d103,d107,qI 6 d32] .ret
abbrev d283 : CC:=sO [d259,qI 5 (.mv (cI 21))] .ret
abbrev d284 : COp:=.alloc [.sc (.int .i64 0),.sc (.int .i64 0),.sc (.int .i64 0),.sc (.int .i64 0)]
abbrev d285 : COp:=.alloc [.sc (.str ⟨#[]⟩),.sc (.bool false),.sc .nils,.sc .nils,.sc .nils,.sc .nils]
abbrev d286 : CI:=qI 8 d284
abbrev d287 : CC:=sO [mI 7 4,d233] (.cond z8 (sO [mI 9 4,d102,mI 3 9] .ret) .skip)
abbrev d288 : COp:=.alloc [.sc (.int .i64 0),.sc (.int .i64 0),.sc (.str ⟨#[]⟩),.sc (.int .i64 0),.sc (.int .i64 0),.sc .nils]
abbrev d289 : CI:=qI 5 d288
abbrev d290 : CI:=qI 3 d288
abbrev d291 : CI:=qI 8 d288
abbrev d292 : COp:=.alloc [.sc (.bool false),.sc (.int .i64 0),.sc (.int .i64 0),.sc (.int .i64 0),.sc (.bool false),.sc (.int .i64 0)]
abbrev d293 : CC:=sO [d0,d73,mI 8 1,qI 9 (.len z8),qI 10 (.bint .neq z7 z9)] (.cond z10 d204 .skip)
abbrev d294 : COp:=.build [.sc (.bool false),.sc (.int .i64 0),.sc (.int .i64 0),.sc (.int .i64 0),.sc (.bool false),.sc (.int .i64 0)] []
abbrev d295 : CC:=sO [mI 10 0,d81,mI 12 1,qI 13 (.len z12),qI 14 (.bint .neq z11 z13)] (.cond z14 d202 .skip)
abbrev d296 : CC:=sO [d71,d68] (sO [qI 4 d26,d118,qI 6 (.loadN 3 z5),qI 7 (.callv z4 [z6]),mI 3 7] .ret)
abbrev d297 : COp:=.alloc [.sc (.str ⟨#[]⟩),.sc (.int .u8 0),.sc (.int .i64 0),.sc (.int .i64 0),.sc (.int .i64 0),.sc (.int .i64 0),.sc (.int .i64 0)]
abbrev d298 : COp:=.alloc [.sc (.int .i64 0),.sc (.str ⟨#[]⟩),.sc (.int .i64 0),.sc (.str ⟨#[]⟩),.sc (.int .i64 0),.sc (.int .i64 0),.sc (.bool false)]
abbrev d299 : COp:=.alloc [.sc (.int .i64 0),.sc (.int .i64 0),.sc (.int .i64 0),.sc (.int .i64 0),.sc (.int .i64 0),.sc (.int .i64 0),.sc (.int .i64 0)]
abbrev d300 : CC:=sO [d1,qI 4 (.bnil false .slice z3 (.const (.slice none 0 0)))] (.cond z4 (sO [d258] .ret) .skip)
abbrev d301 : COp:=.build [.sc (.int .i64 0),.sc (.int .i64 0),.sc (.int .i64 0),.sc (.int .i64 0),.sc (.int .i64 0),.sc (.int .i64 0),.sc (.int .i64 0)] []
abbrev d302 : CI:=qI 3 d298
abbrev d303 : CI:=qI 4 d298
abbrev d304 : CI:=qI 5 d299
abbrev d305 : CI:=qI 6 d299
abbrev d306 : CI:=qI 7 d299
abbrev d307 : CI:=qI 4 d299
abbrev d308 : COp:=.alloc [.sc (.int .i64 0),.sc (.int .i64 0),.sc (.int .i64 0),.sc (.int .i64 0),.sc (.int .i64 0),.sc .nils,.sc .nils,.sc (.int .i64 0),.sc (.int .i64 0),.sc (.int .i64 0),.sc .nils,.sc (.int .i64 0),.sc (.int .i64 0)]
abbrev d309 : CI:=qI 8 d308
abbrev d310 : CI:=qI 5 d308
abbrev d311 : CI:=qI 2 d308
abbrev d312 : CC:=sO [d258] (.seq d300 (sO [qI 5 (.eslice 0 3),d0,qI 7 (.app 3 24 z5 z6),mI 2 7] .ret))
abbrev d313 : CC:=sO [d258] (.seq d300 (sO [qI 5 (.eslice 0 5),d0,qI 7 (.app 5 40 z5 z6),mI 2 7] .ret))
abbrev d314 : CC:=sO [d258] (.seq d300 (sO [qI 5 (.eslice 0 2),d0,qI 7 (.app 2 16 z5 z6),mI 2 7] .ret))
abbrev d315 : COp:=.alloc [.sc (.int .i64 0),.sc (.int .i64 0),.sc (.int .i64 0),.sc (.int .i64 0),.sc (.int .i64 0),.sc (.int .i64 0),.sc (.int .i64 0),.sc (.int .i64 0),.sc (.int .i64 0),.sc (.int .i64 0),.sc (.int .i64 0),.sc (.int .i64 0),.sc (.bool false),.sc (.int .i64 0),.sc (.int .i64 0),.sc (.int .i64 0),.sc (.int .i64 0),.sc (.int .i64 0),.sc (.int .i64 0),.sc (.str ⟨#[]⟩),.sc .nils,.sc .nils]
abbrev d316 : CI:=qI 8 d315
abbrev d317 : CI:=qI 9 d315
abbrev d318 : CI:=qI 2 d315
abbrev d319 : CI:=qI 5 d315
abbrev d320 : CC:=sO [d103] (.seq (sO [d0,d73,d104] (.block 0 (.loop (sO [d206] (.seq d213 (.seq (.block 1 (sO [mI 10 8,mI 5 10] (sO [d20,d21,mI 13 5,qI 14 (.iaddr 5 z12 z13),qI 15 (.loadN 5 z14),d214] d267))) d268)))))) d246)
abbrev d321 : CC:=sO [d103] (.seq (sO [d0,d73,d104] (.block 0 (.loop (sO [d206] (.seq d213 (.seq (.block 1 (sO [mI 10 8,mI 5 10] (sO [d20,d21,mI 13 5,qI 14 (.iaddr 2 z12 z13),d177,d214] d267))) d268)))))) d246)
abbrev d322 : CC:=sO [d64] (.seq d293 (.seq (sO [d14,d84,d121] (.block 0 (.loop (sO [d225] (.seq d218 (.seq (.block 1 (sO [d24,d15] (sO [d16,d17,qI 18 (.iaddr 2 z16 z17),qI 19 (.loadN 2 z18),d18,mI 21 5,qI 22 (.iaddr 2 z20 z21),d167,qI 24 (.bagg true [.int,.int] z19 z23)] d265))) d273)))))) d205))
abbrev d323 : CC:=sO [d65] (.seq d295 (.seq (sO [d13,d82,d120] (.block 0 (.loop (sO [d224] (.seq d217 (.seq (.block 1 (sO [mI 19 17,qI 20 (.iaddr 2 z15 z17),qI 21 (.loadN 2 z20),d251,mI 7 19,nI (.store 2 z8 z21)] (sO [mI 22 1,mI 23 7,qI 24 (.iaddr 2 z22 z23),qI 25 (.loadN 2 z24),d252,nI (.store 2 z9 z25)] (sO [mI 26 2,qI 27 (.loadN 2 z8),qI 28 (.loadN 2 z9),d237,d83] d264)))) d272)))))) d203))
end Go.Hem
set_option maxRecDepth 100000
namespace Go.Hem
def cf3 : CF:=⟨sO [qI 6 (.mv bF)] (sO [qI 18 (.bslice 8 1 [.sc (.str ⟨#[]⟩)] [(0,(1,.const (.string ⟨#[43]⟩))),(1,(1,.const (.string ⟨#[45]⟩))),(2,(1,.const (.string ⟨#[42]⟩))),(3,(1,.const (.string ⟨#[47]⟩))),(4,(1,.const (.string ⟨#[92]⟩))),(5,(1,.const (.string ⟨#[60]⟩))),(6,(1,.const (.string ⟨#[61,61]⟩))),(7,(1,.const (.string ⟨#[97,110,100]⟩)))]),mI 7 18] (sO [mI 19 2,qI 20 (.conv .i64 z19),mI 21 7,qI 22 (.len z21),qI 23 (.bint .rem z20 z22),mI 8 23] (sO [mI 24 0,qI 25 (.bint .rem z24 (cI 2199023255552)),mI 26 1,qI 27 (.bint .rem z26 (cI 2199023255552)),mI 0 25,mI 1 27] (sO [mI 28 0,mI 32 7,mI 33 8,qI 34 (.iaddr 1 z32 z33),qI 35 (.load1 z34),mI 38 1,⟨some 29,none,.call 5 [z28],[.load1 z34]⟩,qI 30 (.bstr .add (.const (.string ⟨#[112,114,105,110,116,32]⟩)) z29),qI 31 (.bstr .add z30 (.const (.string ⟨#[32]⟩))),qI 36 (.bstr .add z31 z35),qI 37 (.bstr .add z36 (.const (.string ⟨#[32]⟩))),⟨some 39,none,.call 5 [z38],[.load1 z34]⟩,qI 40 (.bstr .add z37 z39),qI 41 (.bstr .add z40 (.const (.string ⟨#[59]⟩))),mI 9 41] (sO [mI 43 9,qI 44 (.call 6 [z43]),mI 42 44,qI 45 (.ext z42 0),qI 46 (.ext z42 1),qI 47 (.ext z42 2),qI 48 (.ext z42 3),mI 10 45,mI 11 46,mI 12 47,mI 13 48] (.seq (sO [qI 49 (.call 7 []),qI 50 (.not z49)] (.cond z50 (sO [qI 6 (.mv bF)] .ret) .skip)) (.seq (sO [mI 51 0,qI 52 (.call 8 [z51]),qI 53 (.bint .gtr z52 (cI 1099511627776)),mI 54 53,uI 55 54 (.mv z1),uI 56 54 (.call 8 [z55]),uI 57 54 (.bint .gtr z56 (cI 1099511627776)),qI 58 (.pick z54 bT z57)] (.cond z58 (sO [mI 59 13,qI 60 (.bint .eql z59 (cI 2)),mI 61 60,vI 62 61 (.mv z10),vI 63 61 (.bnil false .ptr z62 (.const (.pointer none))),qI 64 (.pick z61 z63 bF),mI 6 64] .ret) .skip)) (.seq (sO [mI 65 13,qI 66 (.bint .neq z65 (cI 0))] (.cond z66 (sO [qI 6 (.mv bF)] .ret) .skip)) (sO [mI 68 10,qI 69 (.call 10 []),qI 70 (.call 9 [z68,z69,cI 1,cI 1]),mI 67 70,qI 71 (.ext z67 0),qI 72 (.ext z67 1),qI 73 (.ext z67 2),qI 14 (.alloc [.sc (.str ⟨#[]⟩),.sc (.bool false),.sc .nils,.sc .nils,.sc .nils,.sc .nils]),qI 15 (.alloc [.sc .nils,.sc (.str ⟨#[]⟩),.sc (.int .i64 0)]),nI (.store 6 z14 z71),nI (.store 3 z15 z72),mI 16 73] (sO [qI 17 (.mv (cI 0))] (.seq (sO [mI 74 8] (.block 0 (sO [qI 83 (.bint .eql z74 (cI 0)),mI 82 83] (.cond z82 (.ops [mI 84 0,mI 85 1,qI 86 (.bint .add z84 z85),mI 17 86]) (sO [qI 88 (.bint .eql z74 (cI 1)),mI 87 88] (.cond z87 (.ops [mI 89 0,mI 90 1,qI 91 (.bint .sub z89 z90),mI 17 91]) (sO [qI 93 (.bint .eql z74 (cI 2)),mI 92 93] (.cond z92 (.seq (sO [mI 94 0,qI 95 (.bint .neq z94 (cI 0)),mI 96 95,vI 97 96 (.mv z1),vI 98 96 (.call 8 [z97]),vI 99 96 (.mv z0),vI 100 96 (.call 8 [z99]),vI 101 96 (.bint .quo (cI 1099511627776) z100),vI 102 96 (.bint .gtr z98 z101),qI 103 (.pick z96 z102 bF)] (.cond z103 (sO [mI 104 16,qI 105 (.bint .eql z104 (cI 14)),mI 6 105] .ret) .skip)) (.ops [mI 106 0,mI 107 1,qI 108 (.bint .mul z106 z107),mI 17 108])) (.seq (sO [qI 110 (.bint .eql z74 (cI 3)),mI 109 110] (.cond z109 .skip (.ops [qI 111 (.bint .eql z74 (cI 4)),mI 109 111]))) (.cond z109 (.seq (sO [mI 112 1,qI 113 (.bint .eql z112 (cI 0))] (.cond z113 (sO [mI 114 16,qI 115 (.bint .eql z114 (cI 15)),mI 6 115] .ret) .skip)) (sO [mI 116 0,mI 117 1,qI 118 (.bint .quo z116 z117),mI 17 118] (sO [mI 119 8,qI 120 (.bint .eql z119 (cI 4))] (.cond z120 (.ops [mI 121 0,mI 122 1,qI 123 (.bint .rem z121 z122),mI 17 123]) .skip)))) (sO [qI 125 (.bint .eql z74 (cI 5)),mI 124 125] (.cond z124 (.ops [mI 126 0,mI 127 1,qI 128 (.bint .lss z126 z127),qI 129 (.call 11 [z128]),mI 17 129]) (sO [qI 131 (.bint .eql z74 (cI 6)),mI 130 131] (.cond z130 (.ops [mI 132 0,mI 133 1,qI 134 (.bint .eql z132 z133),qI 135 (.call 11 [z134]),mI 17 135]) (.ops [mI 75 0,qI 76 (.bint .neq z75 (cI 0)),mI 77 76,vI 78 77 (.mv z1),vI 79 77 (.bint .neq z78 (cI 0)),qI 80 (.pick z77 z79 bF),qI 81 (.call 11 [z80]),mI 17 81]))))))))))))))) (.seq (sO [mI 136 17,qI 137 (.call 8 [z136]),qI 138 (.bint .gtr z137 (cI 1099511627776))] (.cond z138 (sO [mI 139 16,qI 140 (.bint .eql z139 (cI 14)),mI 6 140] .ret) .skip)) (sO [mI 141 16,qI 142 (.bint .eql z141 (cI 0)),mI 143 142,vI 144 143 (.faddr 1 z15),vI 145 143 (.load1 z144),vI 146 143 (.mv z17),⟨some 147,some (some 143,true),.call 12 [z146],[.load1 z144]⟩,vI 148 143 (.bstr .add z147 (.const (.string ⟨#[10]⟩))),vI 149 143 (.bstr .eql z145 z148),qI 150 (.pick z143 z149 bF),mI 151 150,vI 152 151 (.faddr 2 z15),vI 153 151 (.load1 z152),vI 154 151 (.bint .eql z153 (cI 1)),qI 155 (.pick z151 z154 bF),mI 6 155] .ret))))))))))))),156,[.tmp 6]⟩
theorem ok3 : compF prog 3 = some cf3:=by kernel_rfl
theorem ac3 : acB prog 3 = true:=by decide +kernel
def cf5 : CF:=⟨sO [qI 2 (.mv (.const (.string ⟨#[]⟩)))] (.seq (sO [mI 3 0,qI 4 (.bint .lss z3 (cI 0))] (.cond z4 (sO [mI 5 0,qI 6 (.prim ⟨some 6,.unOp .neg 3 (.tmp 5),3,"law.go:230",#[⟨0,.data⟩],none⟩),qI 7 (.call 12 [z6]),qI 8 (.bstr .add (.const (.string ⟨#[40,45]⟩)) z7),qI 9 (.bstr .add z8 (.const (.string ⟨#[41]⟩))),mI 2 9] .ret) .skip)) (sO [mI 10 0,qI 11 (.call 12 [z10]),mI 2 11] .ret)),12,[.tmp 2]⟩
theorem ok5 : compF prog 5 = some cf5:=by kernel_rfl
theorem ac5 : acB prog 5 = true:=by decide +kernel
def cf6 : CF:=⟨sO [qI 2 (.mv (.const (.pointer none))),qI 3 (.mv (cI 0)),qI 4 (.mv (cI 0)),qI 5 (.mv (cI 0))] (.seq (sO [mI 9 0,qI 10 (.lenS z9),qI 11 (.bint .gtr z10 (cI 16384))] (.cond z11 (sO [qI 2 (.mv (.const (.pointer none))),qI 3 (.mv (cI 1)),qI 4 (.mv (cI 1)),qI 5 (.mv (cI 5))] .ret) .skip)) (sO [qI 12 .mkmap,qI 13 (.bslice 1 1 [.sc .nilm] [(0,(1,z12))]),qI 14 .mkmap,qI 15 (.build [.sc .nils,.sc (.int .i64 0),.sc (.int .i64 0),.sc (.int .i64 0),.sc .nils,.sc .nilm,.sc (.int .i64 0),.sc (.int .i64 0),.sc (.int .i64 0)] [(4,(1,z13)),(5,(1,z14))]),qI 16 (.box z15),mI 6 16] (.seq (sO [mI 18 6,mI 19 0,qI 20 (.call 13 [z19]),mI 17 20,qI 21 (.ext z17 0),qI 22 (.ext z17 1),qI 23 (.ext z17 2),qI 24 (.ext z17 3),qI 25 (.nilc z18),qI 26 (.faddr 0 z25),nI (.store 1 z26 z21),mI 3 22,mI 4 23,mI 5 24] (sO [mI 27 5,qI 28 (.bint .neq z27 (cI 0))] (.cond z28 (sO [mI 29 3,mI 30 4,mI 31 5,qI 2 (.mv (.const (.pointer none))),mI 3 29,mI 4 30,mI 5 31] .ret) .skip))) (.seq (sO [qI 32 (.call 14 []),qI 33 (.len z32),qI 34 (.mv (cI 0))] (.block 0 (.loop (sO [qI 35 (.bint .lss z34 z33)] (.seq (.cond z35 .skip (.exit 0)) (.seq (.block 1 (sO [qI 36 (.iaddr 1 z32 z34),qI 37 (.load1 z36),mI 8 37] (.ops [mI 38 6,qI 39 (.nilc z38),qI 40 (.faddr 5 z39),qI 41 (.load1 z40),mI 42 8,nI (.mpup false [.str] z41 z42 bT)]))) (.ops [qI 43 (.bint .add z34 (cI 1)),mI 34 43]))))))) (sO [mI 44 6,qI 45 (.nilc z44),qI 46 (.faddr 0 z45),qI 47 (.load1 z46),qI 48 (.build [.sc .nils,.sc .nils] [(0,(1,z47))]),qI 49 (.box z48),mI 2 49] (.seq (.block 2 (.loop (.seq (sO [mI 50 6,qI 51 (.nilc z50),qI 52 (.faddr 8 z51),qI 53 (.load1 z52),qI 54 (.bint .eql z53 (cI 0)),mI 55 54,vI 56 55 (.mv z6),vI 57 55 (.call 15 [z56]),vI 58 55 (.fld1 0 z57),vI 59 55 (.bint .neq z58 (cI 0)),qI 60 (.pick z55 z59 bF)] (.cond z60 .skip (.exit 2))) (.block 3 (.ops [mI 61 2,mI 62 2,qI 63 (.nilc z62),qI 64 (.faddr 1 z63),qI 65 (.load1 z64),mI 66 6,⟨some 67,none,.call 16 [z66],[.load1 z64]⟩,qI 68 (.bslice 1 1 [.sc .nili] [(0,(1,z67))]),qI 69 (.app 1 16 z65 z68),qI 70 (.nilc z61),qI 71 (.faddr 1 z70),nI (.store 1 z71 z69)]))))) (.seq (sO [mI 72 6,qI 73 (.nilc z72),qI 74 (.faddr 8 z73),qI 75 (.load1 z74),qI 76 (.bint .neq z75 (cI 0))] (.cond z76 (sO [mI 77 6,qI 78 (.nilc z77),qI 79 (.faddr 6 z78),qI 80 (.load1 z79),mI 81 6,qI 82 (.nilc z81),qI 83 (.faddr 7 z82),qI 84 (.load1 z83),mI 85 6,qI 86 (.nilc z85),qI 87 (.faddr 8 z86),qI 88 (.load1 z87),qI 2 (.mv (.const (.pointer none))),mI 3 80,mI 4 84,mI 5 88] .ret) .skip)) (sO [mI 89 2,mI 2 89,qI 3 (.mv (cI 0)),qI 4 (.mv (cI 0)),qI 5 (.mv (cI 0))] .ret)))))))),90,[.tmp 2,.tmp 3,.tmp 4,.tmp 5]⟩
theorem ok6 : compF prog 6 = some cf6:=by kernel_rfl
theorem ac6 : acB prog 6 = true:=by decide +kernel
def cf7 : CF:=⟨sO [qI 0 (.mv bF)] (sO [qI 13 (.call 6 [.const (.string ⟨#[108,101,116,32,110,32,61,32,48,59,32,102,111,114,32,109,101,97,115,117,114,101,115,32,123,32,110,32,61,32,110,32,43,32,105,116,46,108,101,110,103,116,104,59,32,125,32,112,114,105,110,116,32,110,32,47,32,52,59]⟩)]),mI 12 13,qI 14 (.ext z12 0),qI 15 (.ext z12 1),qI 16 (.ext z12 2),qI 17 (.ext z12 3),mI 1 14,mI 2 15,mI 3 16,mI 4 17] (.seq (sO [mI 18 4,d244,mI 20 19,uI 21 20 d5,uI 22 20 (.bnil false .ptr z21 (.const (.pointer none))),qI 23 (.pick z20 bT z22)] (.cond z23 (sO [qI 0 (.mv bF)] .ret) .skip)) (sO [mI 25 1,qI 26 (.call 10 []),qI 27 (.call 9 [z25,z26,cI 1,cI 1]),mI 24 27,qI 28 (.ext z24 0),qI 29 (.ext z24 1),qI 30 (.ext z24 2),qI 5 d285,qI 6 d280,nI (.store 6 z5 z28),nI (.store 3 z6 z29),mI 7 30] (sO [qI 32 (.call 6 [.const (.string ⟨#[112,114,105,110,116,32,120,59]⟩)]),mI 31 32,qI 33 (.ext z31 0),qI 34 (.ext z31 1),qI 35 (.ext z31 2),qI 36 (.ext z31 3),mI 8 33,mI 9 34,mI 10 35,mI 11 36] (sO [mI 37 7,qI 38 (.bint .eql z37 (cI 0)),mI 39 38,vI 40 39 (.loadN 6 z5),⟨some 41,some (some 39,true),.call 10 [],[.loadN 6 z5]⟩,vI 42 39 (.call 17 [z40,z41]),qI 43 (.pick z39 z42 bF),mI 44 43,vI 45 44 (.faddr 1 z6),vI 46 44 (.load1 z45),vI 47 44 (.bstr .eql z46 (.const (.string ⟨#[52,56,51,56,52,48,10]⟩))),qI 48 (.pick z44 z47 bF),mI 49 48,vI 50 49 (.faddr 2 z6),vI 51 49 (.load1 z50),vI 52 49 (.bint .eql z51 (cI 5)),qI 53 (.pick z49 z52 bF),mI 54 53,vI 55 54 (.faddr 0 z6),vI 56 54 (.load1 z55),vI 57 54 (.len z56),vI 58 54 (.bint .eql z57 (cI 0)),qI 59 (.pick z54 z58 bF),mI 60 59,vI 61 60 (.mv z11),vI 62 60 (.bint .eql z61 (cI 32)),qI 63 (.pick z60 z62 bF),mI 64 63,vI 65 64 (.mv z10),vI 66 64 (.bint .eql z65 (cI 7)),qI 67 (.pick z64 z66 bF),mI 0 67] .ret))))),68,[.tmp 0]⟩
theorem ok7 : compF prog 7 = some cf7:=by kernel_rfl
theorem ac7 : acB prog 7 = true:=by decide +kernel
def cf8 : CF:=⟨sO [qI 2 (.mv (cI 0))] (.seq (sO [mI 3 0,qI 4 (.bint .lss z3 (cI 0))] (.cond z4 (sO [mI 5 0,qI 6 (.prim ⟨some 6,.unOp .neg 3 (.tmp 5),3,"model.go:596",#[⟨0,.data⟩],none⟩),mI 2 6] .ret) .skip)) (sO [mI 7 0,mI 2 7] .ret)),8,[.tmp 2]⟩
theorem ok8 : compF prog 8 = some cf8:=by kernel_rfl
theorem ac8 : acB prog 8 = true:=by decide +kernel
def cf9 : CF:=⟨sO [qI 5 (.box z1),qI 8 (.alloc [.sc (.str ⟨#[]⟩),.sc (.bool false),.sc .nils,.sc .nils,.sc .nils,.sc .nils]),qI 9 (.alloc [.sc .nils,.sc (.str ⟨#[]⟩),.sc (.int .i64 0)]),qI 10 (.mv (cI 0))] (.seq (.block 0 (sO [mI 13 0,qI 14 (.bnil false .ptr z13 (.const (.pointer none))),mI 12 14] (.cond z12 (sO [qI 15 (.build [.sc (.str ⟨#[]⟩),.sc (.bool false),.sc .nils,.sc .nils,.sc .nils,.sc .nils] []),qI 16 (.build [.sc .nils,.sc (.str ⟨#[]⟩),.sc (.int .i64 0)] []),nI (.store 6 z8 z15),nI (.store 3 z9 z16),qI 10 (.mv (cI 1))] .ret) (sO [qI 18 (.loadN 6 z5),qI 19 (.call 18 [z18]),qI 20 (.not z19),mI 17 20] (.cond z17 (sO [qI 21 (.build [.sc (.str ⟨#[]⟩),.sc (.bool false),.sc .nils,.sc .nils,.sc .nils,.sc .nils] []),qI 22 (.build [.sc .nils,.sc (.str ⟨#[]⟩),.sc (.int .i64 0)] []),nI (.store 6 z8 z21),nI (.store 3 z9 z22),qI 10 (.mv (cI 24))] .ret) (sO [mI 24 2,qI 25 (.bint .lss z24 (cI 0)),mI 26 25,uI 27 26 (.mv z2),uI 28 26 (.bint .gtr z27 (cI 99)),qI 29 (.pick z26 bT z28),mI 30 29,uI 31 30 (.mv z3),uI 32 30 (.bint .lss z31 (cI 1)),qI 33 (.pick z30 bT z32),mI 34 33,uI 35 34 (.mv z3),uI 36 34 (.bint .gtr z35 (cI 1073741824)),qI 37 (.pick z34 bT z36),mI 23 37] (.cond z23 (sO [qI 38 (.build [.sc (.str ⟨#[]⟩),.sc (.bool false),.sc .nils,.sc .nils,.sc .nils,.sc .nils] []),qI 39 (.build [.sc .nils,.sc (.str ⟨#[]⟩),.sc (.int .i64 0)] []),nI (.store 6 z8 z38),nI (.store 3 z9 z39),qI 10 (.mv (cI 2))] .ret) .skip))))))) (sO [qI 40 (.loadN 6 z5),qI 41 (.call 19 [z40]),mI 42 2,mI 43 3,qI 44 (.build [.sc (.str ⟨#[]⟩),.sc (.bool false),.sc .nils,.sc .nils,.sc .nils,.sc .nils,.sc (.int .i64 0),.sc (.int .i64 0),.sc .nils,.sc (.str ⟨#[]⟩),.sc (.int .i64 0),.sc .nils,.sc .nils,.sc .nils,.sc (.int .i64 0)] [(0,(6,z41)),(6,(1,z42)),(7,(1,z43))]),qI 45 (.box z44),mI 11 45] (sO [mI 46 11,mI 47 0,qI 48 (.nilc z47),qI 49 (.faddr 1 z48),qI 50 (.load1 z49),qI 51 (.call 20 [z46,z50])] (.seq (sO [mI 52 11,qI 53 (.nilc z52),qI 54 (.faddr 14 z53),qI 55 (.load1 z54),qI 56 (.bint .neq z55 (cI 0))] (.cond z56 (sO [qI 57 (.build [.sc (.str ⟨#[]⟩),.sc (.bool false),.sc .nils,.sc .nils,.sc .nils,.sc .nils] []),qI 58 (.build [.sc .nils,.sc (.str ⟨#[]⟩),.sc (.int .i64 0)] []),mI 59 11,qI 60 (.nilc z59),qI 61 (.faddr 14 z60),qI 62 (.load1 z61),⟨none,none,.store 6 z8 z57,[.load1 z61]⟩,⟨none,none,.store 3 z9 z58,[.load1 z61]⟩,mI 10 62] .ret) .skip)) (sO [mI 63 11,mI 64 11,qI 65 (.nilc z64),qI 66 (.faddr 11 z65),qI 67 (.load1 z66),qI 68 (.strb z67),qI 69 (.nilc z63),qI 70 (.faddr 8 z69),qI 71 (.faddr 1 z70),nI (.store 1 z71 z68)] (sO [mI 72 11,qI 73 (.nilc z72),qI 74 (.faddr 0 z73),qI 75 (.loadN 6 z74),mI 76 11,qI 77 (.nilc z76),qI 78 (.faddr 8 z77),qI 79 (.loadN 3 z78),⟨none,none,.store 6 z8 z75,[.loadN 3 z78]⟩,nI (.store 3 z9 z79),qI 10 (.mv (cI 0))] .ret)))))),80,[.cellN 6 8,.cellN 3 9,.tmp 10]⟩
theorem ok9 : compF prog 9 = some cf9:=by kernel_rfl
theorem ac9 : acB prog 9 = true:=by decide +kernel
def cf10 : CF:=⟨sO [qI 0 d285] (sO [qI 3 d281,qI 4 (.build [.sc (.int .i64 0),.sc (.int .i64 0),.sc (.int .i64 0)] [(2,(1,cI 4))]),qI 5 (.build [.sc (.int .i64 0),.sc (.int .i64 0),.sc (.int .i64 0),.sc (.bool false),.sc (.int .i64 0)] [(0,(3,z4))]),qI 6 (.bslice 1 5 [.sc (.int .i64 0),.sc (.int .i64 0),.sc (.int .i64 0),.sc (.bool false),.sc (.int .i64 0)] [(0,(5,z5))]),qI 7 (.build [.sc (.int .i64 0),.sc (.int .i64 0),.sc (.int .i64 0),.sc (.int .i64 0),.sc (.int .i64 0),.sc .nils,.sc .nils,.sc (.int .i64 0),.sc (.int .i64 0),.sc (.int .i64 0),.sc .nils,.sc (.int .i64 0),.sc (.int .i64 0)] [(0,(2,z3)),(2,(1,cI 1)),(5,(1,z6))]),qI 1 d308,nI (.store 13 z1 z7)] (sO [qI 8 (.build [.sc (.int .i64 0),.sc (.int .i64 0)] [(1,(1,cI 3))]),qI 9 (.build [.sc (.int .i64 0),.sc (.int .i64 0),.sc (.int .i64 0),.sc (.int .i64 0),.sc (.int .i64 0),.sc (.int .i64 0),.sc (.int .i64 0),.sc (.int .i64 0)] [(0,(1,cI 4)),(1,(1,cI 4))]),qI 10 d61,qI 11 (.bslice 1 13 [.sc (.int .i64 0),.sc (.int .i64 0),.sc (.int .i64 0),.sc (.int .i64 0),.sc (.int .i64 0),.sc .nils,.sc .nils,.sc (.int .i64 0),.sc (.int .i64 0),.sc (.int .i64 0),.sc .nils,.sc (.int .i64 0),.sc (.int .i64 0)] [(0,(13,z10))]),qI 12 (.build [.sc .nils,.sc .nils] [(0,(1,z11))]),qI 13 (.bslice 1 2 [.sc .nils,.sc .nils] [(0,(2,z12))]),qI 14 (.build [.sc .nils,.sc .nils] [(1,(1,z13))]),qI 15 (.bslice 1 2 [.sc .nils,.sc .nils] [(0,(2,z14))]),qI 16 (.build [.sc (.int .i64 0),.sc (.int .i64 0),.sc (.int .i64 0),.sc (.int .i64 0),.sc (.int .i64 0),.sc (.int .i64 0),.sc (.int .i64 0),.sc (.int .i64 0),.sc (.int .i64 0),.sc (.int .i64 0),.sc (.int .i64 0),.sc (.int .i64 0),.sc (.bool false),.sc (.int .i64 0),.sc (.int .i64 0),.sc (.int .i64 0),.sc (.int .i64 0),.sc (.int .i64 0),.sc (.int .i64 0),.sc (.str ⟨#[]⟩),.sc .nils,.sc .nils] [(0,(2,z8)),(2,(8,z9)),(21,(1,z15))]),d318,nI (.store 22 z2 z16)] (sO [qI 17 (.build [.sc (.int .i64 0),.sc (.int .i64 0)] [(1,(1,cI 1))]),qI 18 (.build [.sc (.int .i64 0),.sc (.int .i64 0)] [(1,(1,cI 2))]),qI 19 (.build [.sc (.int .i64 0),.sc (.int .i64 0),.sc (.int .i64 0)] [(0,(2,z18)),(2,(1,cI 1))]),qI 20 (.bslice 1 3 [.sc (.int .i64 0),.sc (.int .i64 0),.sc (.int .i64 0)] [(0,(3,z19))]),qI 21 (.build [.sc (.int .i64 0),.sc (.int .i64 0),.sc (.str ⟨#[]⟩),.sc (.int .i64 0),.sc (.int .i64 0),.sc .nils] [(0,(2,z17)),(5,(1,z20))]),qI 22 (.bslice 1 6 [.sc (.int .i64 0),.sc (.int .i64 0),.sc (.str ⟨#[]⟩),.sc (.int .i64 0),.sc (.int .i64 0),.sc .nils] [(0,(6,z21))]),qI 23 (.loadN 22 z2),qI 24 (.bslice 1 22 [.sc (.int .i64 0),.sc (.int .i64 0),.sc (.int .i64 0),.sc (.int .i64 0),.sc (.int .i64 0),.sc (.int .i64 0),.sc (.int .i64 0),.sc (.int .i64 0),.sc (.int .i64 0),.sc (.int .i64 0),.sc (.int .i64 0),.sc (.int .i64 0),.sc (.bool false),.sc (.int .i64 0),.sc (.int .i64 0),.sc (.int .i64 0),.sc (.int .i64 0),.sc (.int .i64 0),.sc (.int .i64 0),.sc (.str ⟨#[]⟩),.sc .nils,.sc .nils] [(0,(22,z23))]),qI 25 d281,qI 26 (.bslice 1 2 [.sc (.int .i64 0),.sc (.int .i64 0)] [(0,(2,z25))]),qI 27 (.build [.sc (.str ⟨#[]⟩),.sc (.bool false),.sc .nils,.sc .nils,.sc .nils,.sc .nils] [(2,(1,z22)),(3,(1,z24)),(5,(1,z26))]),nI (.store 6 z0 z27)] .ret))),28,[.cellN 6 0]⟩
theorem ok10 : compF prog 10 = some cf10:=by kernel_rfl
theorem ac10 : acB prog 10 = true:=by decide +kernel
def cf11 : CF:=⟨sO [qI 2 (.mv (cI 0))] (.seq (sO [mI 3 0] (.cond z3 (sO [qI 2 (.mv (cI 1))] .ret) .skip)) (sO [qI 2 (.mv (cI 0))] .ret)),4,[.tmp 2]⟩
theorem ok11 : compF prog 11 = some cf11:=by kernel_rfl
theorem ac11 : acB prog 11 = true:=by decide +kernel
def cf13 : CF:=⟨sO [qI 2 (.mv (.const (.slice none 0 0))),qI 3 (.mv (cI 0)),qI 4 (.mv (cI 0)),qI 5 (.mv (cI 0))] (.seq (sO [mI 8 0,qI 9 (.lenS z8),qI 10 (.bint .gtr z9 (cI 1048576))] (.cond z10 (sO [qI 2 (.mv (.const (.slice none 0 0))),qI 3 (.mv (cI 1)),qI 4 (.mv (cI 1)),qI 5 (.mv (cI 5))] .ret) .skip)) (sO [mI 11 0,qI 12 (.bslice 1 1 [.sc (.int .i64 0)] [(0,(1,cI 0))]),qI 13 (.build [.sc (.str ⟨#[]⟩),.sc (.int .i64 0),.sc .nils,.sc .nils,.sc (.int .i64 0),.sc (.int .i64 0)] [(0,(1,z11)),(2,(1,z12))]),qI 14 (.box z13),mI 6 14] (.seq (sO [mI 15 0,qI 16 (.lenS z15),qI 17 (.mv (cI 0))] (.block 0 (.loop (sO [qI 18 (.bint .lss z17 z16)] (.seq (.cond z18 .skip (.exit 0)) (.seq (.block 1 (sO [mI 19 17,mI 7 19] (sO [mI 20 0,mI 21 7,qI 22 (.idxS z20 z21),qI 23 (.bint .eql z22 (.const (.int .u8 10)))] (.cond z23 (.ops [mI 24 6,mI 25 6,qI 26 (.nilc z25),qI 27 (.faddr 2 z26),qI 28 (.load1 z27),mI 29 7,qI 30 (.bint .add z29 (cI 1)),qI 31 (.bslice 1 1 [.sc (.int .i64 0)] [(0,(1,z30))]),qI 32 (.app 1 8 z28 z31),qI 33 (.nilc z24),qI 34 (.faddr 2 z33),nI (.store 1 z34 z32)]) .skip)))) (.ops [qI 35 (.bint .add z17 (cI 1)),mI 17 35]))))))) (sO [mI 36 6,qI 37 (.call 21 [z36])] (.seq (sO [mI 38 6,qI 39 (.nilc z38),qI 40 (.faddr 4 z39),qI 41 (.load1 z40),qI 42 (.bint .neq z41 (cI 0))] (.cond z42 (sO [mI 44 6,mI 45 6,qI 46 (.nilc z45),qI 47 (.faddr 5 z46),qI 48 (.load1 z47),qI 49 (.call 22 [z44,z48]),mI 43 49,qI 50 (.ext z43 0),qI 51 (.ext z43 1),mI 3 50,mI 4 51] (sO [mI 52 3,mI 53 4,mI 54 6,qI 55 (.nilc z54),qI 56 (.faddr 4 z55),qI 57 (.load1 z56),qI 2 (.mv (.const (.slice none 0 0))),mI 3 52,mI 4 53,mI 5 57] .ret)) .skip)) (sO [mI 58 6,qI 59 (.nilc z58),qI 60 (.faddr 3 z59),qI 61 (.load1 z60),mI 2 61,qI 3 (.mv (cI 0)),qI 4 (.mv (cI 0)),qI 5 (.mv (cI 0))] .ret)))))),62,[.tmp 2,.tmp 3,.tmp 4,.tmp 5]⟩
theorem ok13 : compF prog 13 = some cf13:=by kernel_rfl
theorem ac13 : acB prog 13 = true:=by decide +kernel
def cf14 : CF:=⟨sO [d260] (sO [qI 2 (.bslice 33 1 [.sc (.str ⟨#[]⟩)] [(0,(1,.const (.string ⟨#[108,101,116]⟩))),(1,(1,.const (.string ⟨#[112,114,105,110,116]⟩))),(2,(1,.const (.string ⟨#[105,102]⟩))),(3,(1,.const (.string ⟨#[101,108,115,101]⟩))),(4,(1,.const (.string ⟨#[114,101,112,101,97,116]⟩))),(5,(1,.const (.string ⟨#[102,111,114]⟩))),(6,(1,.const (.string ⟨#[100,111]⟩))),(7,(1,.const (.string ⟨#[111,98,106,101,99,116]⟩))),(8,(1,.const (.string ⟨#[111,116,104,101,114]⟩))),(9,(1,.const (.string ⟨#[115,116,97,102,102]⟩))),(10,(1,.const (.string ⟨#[118,111,105,99,101]⟩))),(11,(1,.const (.string ⟨#[97,116]⟩))),(12,(1,.const (.string ⟨#[105,110,100,101,120]⟩))),(13,(1,.const (.string ⟨#[110,117,109,98,101,114]⟩))),(14,(1,.const (.string ⟨#[118,97,108,117,101]⟩))),(15,(1,.const (.string ⟨#[112,105,116,99,104]⟩))),(16,(1,.const (.string ⟨#[109,101,116,114,101]⟩))),(17,(1,.const (.string ⟨#[105,110,116,101,114,118,97,108]⟩))),(18,(1,.const (.string ⟨#[116,101,120,116]⟩))),(19,(1,.const (.string ⟨#[105,116]⟩))),(20,(1,.const (.string ⟨#[112,97,114,116,115]⟩))),(21,(1,.const (.string ⟨#[115,116,97,118,101,115]⟩))),(22,(1,.const (.string ⟨#[109,101,97,115,117,114,101,115]⟩))),(23,(1,.const (.string ⟨#[101,118,101,110,116,115]⟩))),(24,(1,.const (.string ⟨#[99,104,111,114,100,115]⟩))),(25,(1,.const (.string ⟨#[114,101,115,116,115]⟩))),(26,(1,.const (.string ⟨#[115,112,97,110,110,101,114,115]⟩))),(27,(1,.const (.string ⟨#[102,114,111,109]⟩))),(28,(1,.const (.string ⟨#[116,111]⟩))),(29,(1,.const (.string ⟨#[111,114]⟩))),(30,(1,.const (.string ⟨#[97,110,100]⟩))),(31,(1,.const (.string ⟨#[110,111,116]⟩))),(32,(1,.const (.string ⟨#[99,111,117,110,116]⟩)))]),mI 1 2] (sO [mI 3 1,qI 4 (.call 23 [z3])] (sO [mI 5 1,mI 0 5] .ret))),6,[.tmp 0]⟩
theorem ok14 : compF prog 14 = some cf14:=by kernel_rfl
theorem ac14 : acB prog 14 = true:=by decide +kernel
def cf15 : CF:=⟨sO [qI 2 (.alloc [.sc (.int .i64 0),.sc (.str ⟨#[]⟩),.sc (.int .i64 0),.sc (.str ⟨#[]⟩),.sc (.int .i64 0),.sc (.int .i64 0),.sc (.bool false)])] (.seq (sO [mI 3 0,qI 4 (.nilc z3),qI 5 (.faddr 8 z4),qI 6 (.load1 z5),qI 7 (.bint .neq z6 (cI 0))] (.cond z7 (sO [qI 8 (.build [.sc (.int .i64 0),.sc (.str ⟨#[]⟩),.sc (.int .i64 0),.sc (.str ⟨#[]⟩),.sc (.int .i64 0),.sc (.int .i64 0),.sc (.bool false)] [(0,(1,cI (-1)))]),nI (.store 7 z2 z8)] .ret) .skip)) (sO [mI 9 0,qI 10 (.nilc z9),qI 11 (.faddr 0 z10),qI 12 (.load1 z11),mI 13 0,qI 14 (.nilc z13),qI 15 (.faddr 1 z14),qI 16 (.load1 z15),qI 17 (.iaddr 7 z12 z16),qI 18 (.loadN 7 z17),nI (.store 7 z2 z18)] .ret)),19,[.cellN 7 2]⟩
theorem ok15 : compF prog 15 = some cf15:=by kernel_rfl
theorem ac15 : acB prog 15 = true:=by decide +kernel
def cf16 : CF:=⟨sO [qI 2 (.mv (.const .nilIface))] (.seq (.block 0 (sO [mI 6 0,qI 7 (.call 24 [z6,.const (.string ⟨#[108,101,116]⟩)]),mI 5 7] (.cond z5 (sO [mI 8 0,qI 9 (.call 25 [z8]),mI 2 9] .ret) (sO [mI 11 0,qI 12 (.call 24 [z11,.const (.string ⟨#[112,114,105,110,116]⟩)]),mI 10 12] (.cond z10 (sO [mI 13 0,qI 14 (.call 26 [z13]),mI 2 14] .ret) (sO [mI 16 0,qI 17 (.call 24 [z16,.const (.string ⟨#[105,102]⟩)]),mI 15 17] (.cond z15 (sO [mI 18 0,qI 19 (.call 27 [z18]),qI 20 (.build [.sc .nilf,.sc .nils,.sc .nils] [(0,(1,z19))]),qI 21 (.box z20),mI 3 21] (sO [mI 22 3,mI 23 0,qI 24 (.call 28 [z23,bF]),qI 25 (.nilc z22),qI 26 (.faddr 1 z25),nI (.store 1 z26 z24)] (.seq (sO [mI 27 0,qI 28 (.call 24 [z27,.const (.string ⟨#[101,108,115,101]⟩)])] (.cond z28 (.ops [mI 29 3,mI 30 0,qI 31 (.call 28 [z30,bF]),qI 32 (.nilc z29),qI 33 (.faddr 2 z32),nI (.store 1 z33 z31)]) .skip)) (sO [mI 34 3,qI 35 (.mkif 116 z34),mI 2 35] .ret)))) (sO [mI 37 0,qI 38 (.call 24 [z37,.const (.string ⟨#[114,101,112,101,97,116]⟩)]),mI 36 38] (.cond z36 (sO [mI 39 0,qI 40 (.call 27 [z39]),mI 41 0,qI 42 (.call 28 [z41,bF]),qI 43 (.build [.sc .nilf,.sc .nils] [(0,(1,z40)),(1,(1,z42))]),qI 44 (.box z43),qI 45 (.mkif 123 z44),mI 2 45] .ret) (sO [mI 47 0,qI 48 (.call 24 [z47,.const (.string ⟨#[102,111,114]⟩)]),mI 46 48] (.cond z46 (sO [mI 49 0,qI 50 (.call 29 [z49]),mI 51 0,qI 52 (.call 28 [z51,bT]),qI 53 (.build [.sc .nilp,.sc .nils] [(0,(1,z50)),(1,(1,z52))]),qI 54 (.box z53),qI 55 (.mkif 126 z54),mI 2 55] .ret) (sO [mI 57 0,qI 58 (.call 24 [z57,.const (.string ⟨#[100,111]⟩)]),mI 56 58] (.cond z56 (sO [mI 59 0,qI 60 (.call 30 [z59]),mI 2 60] .ret) (sO [mI 62 0,qI 63 (.call 31 [z62]),mI 61 63] (.cond z61 (sO [mI 64 0,qI 65 (.call 32 [z64]),qI 66 (.build [.sc (.str ⟨#[]⟩),.sc .nilf] [(0,(1,z65))]),qI 67 (.box z66),mI 4 67] (sO [mI 68 0,qI 69 (.call 33 [z68,.const (.string ⟨#[61]⟩)])] (sO [mI 70 4,mI 71 0,qI 72 (.call 27 [z71]),qI 73 (.nilc z70),qI 74 (.faddr 1 z73),nI (.store 1 z74 z72)] (sO [mI 75 0,qI 76 (.call 33 [z75,.const (.string ⟨#[59]⟩)])] (sO [mI 77 4,qI 78 (.mkif 131 z77),mI 2 78] .ret))))) .skip))))))))))))))) (sO [mI 79 0,qI 80 (.call 34 [z79,cI 13])] (sO [qI 2 (.mv (.const .nilIface))] .ret))),81,[.tmp 2]⟩
theorem ok16 : compF prog 16 = some cf16:=by kernel_rfl
theorem ac16 : acB prog 16 = true:=by decide +kernel
def cf17 : CF:=⟨sO [d71,d72,d64] (sO [qI 5 (.mv (.func 35))] (sO [qI 6 d39,d85,qI 8 d41,d86,qI 10 (.bstr .eql z7 z9),d25,vI 12 11 d47,vI 13 11 (.load1 z12),vI 14 11 d48,vI 15 11 (.load1 z14),vI 16 11 (.bbool false z13 z15),qI 17 (.pick z11 z16 bF),mI 18 17,vI 19 18 (.faddr 2 z2),vI 20 18 (.load1 z19),vI 21 18 d42,vI 22 18 (.load1 z21),vI 23 18 (.mv z5),vI 24 18 (.call 37 [z20,z22,z23]),qI 25 (.pick z18 z24 bF),mI 26 25,vI 27 26 (.faddr 3 z2),vI 28 26 d30,vI 29 26 d43,vI 30 26 (.load1 z29),vI 31 26 (.call 38 [z28,z30,.func 39]),qI 32 (.pick z26 z31 bF),mI 33 32,vI 34 33 (.faddr 4 z2),vI 35 33 (.load1 z34),vI 36 33 d55,vI 37 33 (.load1 z36),vI 38 33 (.call 40 [z35,z37]),qI 39 (.pick z33 z38 bF),mI 40 39,vI 41 40 (.faddr 5 z2),vI 42 40 (.load1 z41),vI 43 40 d44,vI 44 40 (.load1 z43),vI 45 40 (.call 41 [z42,z44]),qI 46 (.pick z40 z45 bF),mI 4 46] .ret)),47,[.tmp 4]⟩
theorem ok17 : compF prog 17 = some cf17:=by kernel_rfl
theorem ac17 : acB prog 17 = true:=by decide +kernel
def cf18 : CF:=⟨sO [d70,d66] (sO [qI 3 d38,qI 4 (.call 42 [z3]),qI 5 (.len z4),qI 6 (.bint .eql z5 (cI 0)),mI 2 6] .ret),7,[.tmp 2]⟩
theorem ok18 : compF prog 18 = some cf18:=by kernel_rfl
theorem ac18 : acB prog 18 = true:=by decide +kernel
def cf19 : CF:=⟨sO [d70,qI 2 d285] (sO [qI 9 d35,d98,d81,qI 12 (.mks 6 72 [.sc (.int .i64 0),.sc (.int .i64 0),.sc (.str ⟨#[]⟩),.sc (.int .i64 0),.sc (.int .i64 0),.sc .nils] (cI 0) z11),mI 3 12] (.seq (sO [qI 13 d35,d112,qI 15 (.len z14),d113] (.block 0 (.loop (sO [qI 17 (.bint .lss z16 z15)] (.seq (.cond z17 .skip d10) (.seq (.block 1 (sO [qI 18 (.iaddr 6 z14 z16),qI 19 (.loadN 6 z18),d289,nI (.store 6 z5 z19)] (.ops [mI 20 3,qI 21 (.loadN 6 z5),qI 22 (.call 43 [z21]),qI 23 (.bslice 1 6 [.sc (.int .i64 0),.sc (.int .i64 0),.sc (.str ⟨#[]⟩),.sc (.int .i64 0),.sc (.int .i64 0),.sc .nils] [(0,(6,z22))]),qI 24 (.app 6 72 z20 z23),mI 3 24]))) (.ops [qI 25 d180,mI 16 25]))))))) (sO [qI 26 d36,d114,qI 28 (.len z27),qI 29 (.mks 22 216 [.sc (.int .i64 0),.sc (.int .i64 0),.sc (.int .i64 0),.sc (.int .i64 0),.sc (.int .i64 0),.sc (.int .i64 0),.sc (.int .i64 0),.sc (.int .i64 0),.sc (.int .i64 0),.sc (.int .i64 0),.sc (.int .i64 0),.sc (.int .i64 0),.sc (.bool false),.sc (.int .i64 0),.sc (.int .i64 0),.sc (.int .i64 0),.sc (.int .i64 0),.sc (.int .i64 0),.sc (.int .i64 0),.sc (.str ⟨#[]⟩),.sc .nils,.sc .nils] (cI 0) z28),mI 6 29] (.seq (sO [qI 30 d36,d115,qI 32 (.len z31),qI 33 d29] (.block 2 (.loop (sO [qI 34 (.bint .lss z33 z32)] (.seq (.cond z34 .skip d11) (.seq (.block 3 (sO [qI 35 (.iaddr 22 z31 z33),qI 36 (.loadN 22 z35),d316,nI (.store 22 z8 z36)] (.ops [mI 37 6,qI 38 (.loadN 22 z8),qI 39 (.call 44 [z38]),qI 40 (.bslice 1 22 [.sc (.int .i64 0),.sc (.int .i64 0),.sc (.int .i64 0),.sc (.int .i64 0),.sc (.int .i64 0),.sc (.int .i64 0),.sc (.int .i64 0),.sc (.int .i64 0),.sc (.int .i64 0),.sc (.int .i64 0),.sc (.int .i64 0),.sc (.int .i64 0),.sc (.bool false),.sc (.int .i64 0),.sc (.int .i64 0),.sc (.int .i64 0),.sc (.int .i64 0),.sc (.int .i64 0),.sc (.int .i64 0),.sc (.str ⟨#[]⟩),.sc .nils,.sc .nils] [(0,(22,z39))]),qI 41 (.app 22 216 z37 z40),mI 6 41]))) (.ops [qI 42 d181,mI 33 42]))))))) (sO [mI 43 3,mI 44 6,qI 45 (.faddr 4 z1),d116,qI 48 d37,d117,qI 51 d35,⟨some 47,none,.call 45 [z46],[.load1 z48]⟩,qI 50 (.call 46 [z49]),nI (.store 1 z51 z43),qI 52 d36,nI (.store 1 z52 z44),qI 53 (.faddr 4 z1),nI (.store 1 z53 z47),qI 54 d37,nI (.store 1 z54 z50)] (sO [qI 55 d38,nI (.store 6 z2 z55)] .ret)))))),56,[.cellN 6 2]⟩
theorem ok19 : compF prog 19 = some cf19:=by kernel_rfl
theorem ac19 : acB prog 19 = true:=by decide +kernel
def cf20 : CF:=⟨sO [mI 6 0,mI 7 0,qI 8 (.nilc z7),qI 9 (.faddr 12 z8),qI 10 (.load1 z9),qI 11 .mkmap,qI 12 (.bslice 1 1 [.sc .nilm] [(0,(1,z11))]),qI 13 (.app 1 8 z10 z12),qI 14 (.nilc z6),qI 15 (.faddr 12 z14),nI (.store 1 z15 z13)] (.seq (sO [mI 16 1,qI 17 (.len z16),qI 18 (.mv (cI 0))] (.block 0 (.loop (sO [qI 19 (.bint .lss z18 z17)] (.seq (.cond z19 .skip (.exit 0)) (.seq (.block 1 (sO [qI 20 (.iaddr 1 z16 z18),qI 21 (.load1 z20),mI 5 21] (.seq (sO [mI 22 0,qI 23 (.call 47 [z22]),qI 24 (.not z23)] (.cond z24 (.exit 0) .skip)) (.ops [mI 25 5,mI 26 0,qI 27 (.invk z25 "hemiola/script.exec" [z26])])))) (.ops [qI 28 (.bint .add z18 (cI 1)),mI 18 28]))))))) (.ops [mI 29 0,mI 30 0,qI 31 (.nilc z30),qI 32 (.faddr 12 z31),qI 33 (.load1 z32),mI 34 0,qI 35 (.nilc z34),qI 36 (.faddr 12 z35),qI 37 (.load1 z36),qI 38 (.len z37),qI 39 (.bint .sub z38 (cI 1)),qI 40 (.slc 1 z33 none (some z39)),qI 41 (.nilc z29),qI 42 (.faddr 12 z41),nI (.store 1 z42 z40)])),43,[]⟩
theorem ok20 : compF prog 20 = some cf20:=by kernel_rfl
theorem ac20 : acB prog 20 = true:=by decide +kernel
def cf21 : CF:=⟨sO [qI 1 (.box z0)] (sO [qI 4 (.bslice 4 1 [.sc .nilf] [(0,(1,.func 48)),(1,(1,.func 49)),(2,(1,.func 50)),(3,(1,.func 51))]),mI 2 4] (.block 0 (.loop (.seq (sO [qI 5 (.load1 z1),qI 6 (.nilc z5),qI 7 (.faddr 4 z6),qI 8 (.load1 z7),qI 9 (.bint .eql z8 (cI 0))] (.cond z9 .skip (.exit 0))) (.block 1 (sO [qI 10 (.load1 z1),qI 11 (.call 52 [z10]),qI 12 (.not z11),qI 3 (.alloc [.sc (.bool false)]),nI (.store 1 z3 z12)] (.seq (sO [qI 13 (.load1 z1),qI 14 (.nilc z13),qI 15 (.faddr 1 z14),qI 16 (.load1 z15),qI 17 (.load1 z1),qI 18 (.nilc z17),qI 19 (.faddr 0 z18),qI 20 (.load1 z19),qI 21 (.lenS z20),qI 22 (.bint .eql z16 z21)] (.cond z22 (sO [qI 23 (.load1 z1),qI 24 (.build [.sc (.int .i64 0),.sc (.str ⟨#[]⟩),.sc (.int .i64 0),.sc (.str ⟨#[]⟩),.sc (.int .i64 0),.sc (.int .i64 0),.sc (.bool false)] [(0,(1,cI 0))]),qI 25 (.load1 z1),qI 26 (.nilc z25),qI 27 (.faddr 1 z26),qI 28 (.load1 z27),qI 29 (.load1 z3),qI 30 (.call 53 [z23,z24,z28,z29])] .ret) .skip)) (.seq (sO [qI 31 (.load1 z1),qI 32 (.nilc z31),qI 33 (.faddr 3 z32),qI 34 (.load1 z33),qI 35 (.len z34),qI 36 (.bint .eql z35 (cI 262144))] (.cond z36 (sO [qI 37 (.load1 z1),qI 38 (.load1 z1),qI 39 (.nilc z38),qI 40 (.faddr 1 z39),qI 41 (.load1 z40),qI 42 (.call 54 [z37,z41,cI 9])] .ret) .skip)) (sO [mI 43 2,qI 44 (.mkf (.func 56) [] [z1,z3]),qI 45 (.call 55 [z43,z44]),qI 46 (.not z45)] (.cond z46 (.ops [qI 47 (.load1 z1),qI 48 (.load1 z1),qI 49 (.nilc z48),qI 50 (.faddr 1 z49),qI 51 (.load1 z50),qI 52 (.call 54 [z47,z51,cI 6])]) .skip)))))))))),53,[]⟩
theorem ok21 : compF prog 21 = some cf21:=by kernel_rfl
theorem ac21 : acB prog 21 = true:=by decide +kernel
def cf22 : CF:=⟨sO [qI 4 (.mv (cI 0)),qI 5 (.mv (cI 0))] (sO [mI 9 0,qI 10 (.nilc z9),qI 11 (.faddr 2 z10),qI 12 (.load1 z11),mI 13 1,qI 14 (.call 57 [z12,z13]),mI 8 14,qI 15 (.ext z8 0),qI 16 (.ext z8 1),mI 6 15,mI 7 16] (.seq (sO [mI 17 7,qI 18 (.not z17)] (.cond z18 (.ops [mI 19 6,qI 20 (.bint .sub z19 (cI 1)),mI 6 20]) .skip)) (sO [mI 21 6,qI 22 (.bint .add z21 (cI 1)),mI 23 1,mI 24 0,qI 25 (.nilc z24),qI 26 (.faddr 2 z25),qI 27 (.load1 z26),mI 28 6,qI 29 (.iaddr 1 z27 z28),qI 30 (.load1 z29),qI 31 (.bint .sub z23 z30),qI 32 (.bint .add z31 (cI 1)),mI 4 22,mI 5 32] .ret))),33,[.tmp 4,.tmp 5]⟩
theorem ok22 : compF prog 22 = some cf22:=by kernel_rfl
theorem ac22 : acB prog 22 = true:=by decide +kernel
def cf23 : CF:=⟨sO [d1,qI 4 (.len z3),mI 2 4] (.ops [d4,mI 6 2,mI 7 2,qI 8 (.conv .u64 z7),qI 9 (.call 59 [z8]),qI 10 (.call 58 [z5,cI 0,z6,z9])]),11,[]⟩
theorem ok23 : compF prog 23 = some cf23:=by kernel_rfl
theorem ac23 : acB prog 23 = true:=by decide +kernel
def cf24 : CF:=⟨sO [qI 4 (.mv bF)] (.seq (sO [mI 5 0,mI 6 1,qI 7 (.call 60 [z5,z6]),qI 8 (.not z7)] (.cond z8 (sO [qI 4 (.mv bF)] .ret) .skip)) (sO [mI 9 0,qI 10 (.nilc z9),qI 11 (.faddr 1 z10),qI 12 (.load1 z11),qI 13 (.bint .add z12 (cI 1)),qI 14 (.nilc z9),qI 15 (.faddr 1 z14),nI (.store 1 z15 z13)] (sO [qI 4 (.mv bT)] .ret))),16,[.tmp 4]⟩
theorem ok24 : compF prog 24 = some cf24:=by kernel_rfl
theorem ac24 : acB prog 24 = true:=by decide +kernel
def cf25 : CF:=⟨sO [qI 2 (.mv (.const .nilIface))] (sO [mI 6 0,qI 7 (.call 15 [z6]),qI 8 (.fld1 1 z7),mI 3 8] (sO [mI 9 0,qI 10 (.nilc z9),qI 11 (.faddr 4 z10),qI 12 (.load1 z11),mI 13 0,qI 14 (.nilc z13),qI 15 (.faddr 4 z14),qI 16 (.load1 z15),qI 17 (.len z16),qI 18 (.bint .sub z17 (cI 1)),qI 19 (.iaddr 1 z12 z18),qI 20 (.load1 z19),mI 4 20] (.seq (.block 0 (sO [mI 29 0,qI 30 (.call 31 [z29]),qI 31 (.not z30),mI 28 31] (.cond z28 (.ops [mI 32 0,qI 33 (.call 34 [z32,cI 13])]) (sO [mI 35 4,mI 36 3,qI 37 (.lkup false [.str] (.sc (.bool false)) false z35 z36),mI 34 37] (.cond z34 (.ops [mI 38 0,qI 39 (.call 34 [z38,cI 7])]) (sO [mI 41 0,qI 42 (.call 61 [z41]),qI 43 (.bint .eql z42 (cI 64)),mI 40 43] (.cond z40 (.ops [mI 44 0,qI 45 (.call 34 [z44,cI 9])]) (.ops [mI 21 0,qI 22 (.nilc z21),qI 23 (.faddr 1 z22),qI 24 (.load1 z23),qI 25 (.bint .add z24 (cI 1)),qI 26 (.nilc z21),qI 27 (.faddr 1 z26),nI (.store 1 z27 z25)])))))))) (sO [mI 46 0,qI 47 (.call 33 [z46,.const (.string ⟨#[61]⟩)])] (sO [mI 48 3,mI 49 0,qI 50 (.call 27 [z49]),qI 51 (.build [.sc (.str ⟨#[]⟩),.sc .nilf] [(0,(1,z48)),(1,(1,z50))]),qI 52 (.box z51),mI 5 52] (sO [mI 53 0,qI 54 (.call 33 [z53,.const (.string ⟨#[59]⟩)])] (.seq (sO [mI 55 0,qI 56 (.nilc z55),qI 57 (.faddr 8 z56),qI 58 (.load1 z57),qI 59 (.bint .eql z58 (cI 0))] (.cond z59 (.ops [mI 60 4,mI 61 3,nI (.mpup false [.str] z60 z61 bT)]) .skip)) (sO [mI 62 5,qI 63 (.mkif 167 z62),mI 2 63] .ret)))))))),64,[.tmp 2]⟩
theorem ok25 : compF prog 25 = some cf25:=by kernel_rfl
theorem ac25 : acB prog 25 = true:=by decide +kernel
def cf26 : CF:=⟨sO [qI 2 (.mv (.const .nilIface))] (sO [qI 4 (.build [.sc (.bool false),.sc (.str ⟨#[]⟩),.sc .nilf] []),qI 5 (.box z4),mI 3 5] (.seq (sO [mI 6 0,qI 7 (.call 15 [z6]),qI 8 (.fld1 0 z7),qI 9 (.bint .eql z8 (cI 3))] (.cond z9 (.ops [mI 10 3,mI 11 3,mI 12 0,qI 13 (.call 62 [z12]),qI 14 (.nilc z10),qI 15 (.faddr 1 z14),nI (.store 1 z15 z13),qI 16 (.nilc z11),qI 17 (.faddr 0 z16),nI (.store 1 z17 bT)]) (.ops [mI 18 3,mI 19 0,qI 20 (.call 27 [z19]),qI 21 (.nilc z18),qI 22 (.faddr 2 z21),nI (.store 1 z22 z20)]))) (sO [mI 23 0,qI 24 (.call 33 [z23,.const (.string ⟨#[59]⟩)])] (sO [mI 25 3,qI 26 (.mkif 169 z25),mI 2 26] .ret)))),27,[.tmp 2]⟩
theorem ok26 : compF prog 26 = some cf26:=by kernel_rfl
theorem ac26 : acB prog 26 = true:=by decide +kernel
def cf27 : CF:=⟨sO [qI 2 (.mv (.const .nilFunc))] (sO [mI 4 0,qI 5 (.call 63 [z4]),mI 3 5] (.seq (.block 0 (.loop (.seq (sO [mI 6 0,qI 7 (.call 24 [z6,.const (.string ⟨#[111,114]⟩)])] (.cond z7 .skip (.exit 0))) (.block 1 (.ops [mI 8 3,mI 9 0,qI 10 (.call 63 [z9]),qI 11 (.call 64 [z8,z10,.func 65]),mI 3 11]))))) (sO [mI 12 3,mI 2 12] .ret))),13,[.tmp 2]⟩
theorem ok27 : compF prog 27 = some cf27:=by kernel_rfl
theorem ac27 : acB prog 27 = true:=by decide +kernel
def cf28 : CF:=⟨sO [qI 4 (.mv (.const (.slice none 0 0)))] (sO [mI 6 0,qI 7 (.call 67 [z6,.const (.string ⟨#[123]⟩)])] (sO [mI 8 0,mI 9 0,qI 10 (.nilc z9),qI 11 (.faddr 4 z10),qI 12 (.load1 z11),qI 13 .mkmap,qI 14 (.bslice 1 1 [.sc .nilm] [(0,(1,z13))]),qI 15 (.app 1 8 z12 z14),qI 16 (.nilc z8),qI 17 (.faddr 4 z16),nI (.store 1 z17 z15)] (.seq (sO [mI 18 1] (.cond z18 (.ops [mI 19 0,qI 20 (.nilc z19),qI 21 (.faddr 3 z20),qI 22 (.load1 z21),qI 23 (.bint .add z22 (cI 1)),qI 24 (.nilc z19),qI 25 (.faddr 3 z24),nI (.store 1 z25 z23)]) .skip)) (sO [qI 5 (.mv (.const (.slice none 0 0)))] (.seq (.block 0 (.loop (.seq (sO [mI 26 0,qI 27 (.nilc z26),qI 28 (.faddr 8 z27),qI 29 (.load1 z28),qI 30 (.bint .eql z29 (cI 0)),mI 31 30,vI 32 31 (.mv z0),vI 33 31 (.call 60 [z32,.const (.string ⟨#[125]⟩)]),vI 34 31 (.not z33),qI 35 (.pick z31 z34 bF)] (.cond z35 .skip (.exit 0))) (.block 1 (.ops [mI 36 5,mI 37 0,qI 38 (.call 16 [z37]),qI 39 (.bslice 1 1 [.sc .nili] [(0,(1,z38))]),qI 40 (.app 1 16 z36 z39),mI 5 40]))))) (.seq (sO [mI 41 1] (.cond z41 (.ops [mI 42 0,qI 43 (.nilc z42),qI 44 (.faddr 3 z43),qI 45 (.load1 z44),qI 46 (.bint .sub z45 (cI 1)),qI 47 (.nilc z42),qI 48 (.faddr 3 z47),nI (.store 1 z48 z46)]) .skip)) (sO [mI 49 0,mI 50 0,qI 51 (.nilc z50),qI 52 (.faddr 4 z51),qI 53 (.load1 z52),mI 54 0,qI 55 (.nilc z54),qI 56 (.faddr 4 z55),qI 57 (.load1 z56),qI 58 (.len z57),qI 59 (.bint .sub z58 (cI 1)),qI 60 (.slc 1 z53 none (some z59)),qI 61 (.nilc z49),qI 62 (.faddr 4 z61),nI (.store 1 z62 z60)] (sO [mI 63 0,qI 64 (.call 68 [z63,.const (.string ⟨#[125]⟩)])] (sO [mI 65 5,mI 4 65] .ret))))))))),66,[.tmp 4]⟩
theorem ok28 : compF prog 28 = some cf28:=by kernel_rfl
theorem ac28 : acB prog 28 = true:=by decide +kernel
def cf29 : CF:=⟨sO [qI 2 (.mv (.const (.pointer none)))] (sO [qI 7 (.build [.sc (.int .i64 0),.sc .nilf,.sc .nilf,.sc .nilf,.sc .nilf] []),qI 8 (.box z7),mI 3 8] (sO [qI 9 (.bslice 7 1 [.sc (.str ⟨#[]⟩)] [(0,(1,.const (.string ⟨#[112,97,114,116,115]⟩))),(1,(1,.const (.string ⟨#[115,116,97,118,101,115]⟩))),(2,(1,.const (.string ⟨#[109,101,97,115,117,114,101,115]⟩))),(3,(1,.const (.string ⟨#[101,118,101,110,116,115]⟩))),(4,(1,.const (.string ⟨#[99,104,111,114,100,115]⟩))),(5,(1,.const (.string ⟨#[114,101,115,116,115]⟩))),(6,(1,.const (.string ⟨#[115,112,97,110,110,101,114,115]⟩)))]),mI 4 9] (sO [mI 10 3,mI 11 4,d21,qI 13 (.mkf (.func 60) [z12] []),qI 14 (.call 69 [z11,z13]),qI 15 (.nilc z10),qI 16 (.faddr 0 z15),d194] (.seq (sO [mI 17 3,qI 18 (.nilc z17),qI 19 (.faddr 0 z18),d123,qI 21 (.bint .lss z20 (cI 0))] (.cond z21 (sO [mI 22 0,qI 23 (.call 34 [z22,cI 13])] (sO [mI 24 3,mI 2 24] .ret)) .skip)) (sO [mI 25 0,qI 26 (.nilc z25),qI 27 (.faddr 1 z26),d132,qI 29 (.bint .add z28 (cI 1)),qI 30 (.nilc z25),qI 31 (.faddr 1 z30),nI (.store 1 z31 z29)] (.seq (sO [qI 32 (.bslice 4 1 [.sc (.str ⟨#[]⟩)] [(0,(1,.const (.string ⟨#[115,116,97,102,102]⟩))),(1,(1,.const (.string ⟨#[118,111,105,99,101]⟩))),(2,(1,.const (.string ⟨#[102,114,111,109]⟩))),(3,(1,.const (.string ⟨#[116,111]⟩)))]),qI 33 (.len z32),qI 34 d29] (.block 0 (.loop (sO [qI 35 (.bint .lss z34 z33)] (.seq (.cond z35 .skip d10) (.seq (.block 1 (sO [mI 36 34,qI 37 (.iaddr 1 z32 z34),d133,mI 5 36,mI 6 38] (sO [mI 39 0,mI 40 6,qI 41 (.call 24 [z39,z40])] (.cond z41 (.ops [mI 42 3,mI 43 5,mI 44 0,qI 46 (.nilc z42),qI 47 (.faddr 1 z46),qI 45 (.call 27 [z44]),qI 48 (.iaddrA 4 1 z47 z43),nI (.store 1 z48 z45)]) .skip)))) (.ops [qI 49 d195,mI 34 49]))))))) (sO [mI 50 3,mI 2 50] .ret))))))),51,[.tmp 2]⟩
theorem ok29 : compF prog 29 = some cf29:=by kernel_rfl
theorem ac29 : acB prog 29 = true:=by decide +kernel
def cf31 : CF:=⟨sO [qI 2 (.mv bF)] (sO [mI 4 0,qI 5 (.call 15 [z4]),qI 3 (.alloc [.sc (.int .i64 0),.sc (.str ⟨#[]⟩),.sc (.int .i64 0),.sc (.str ⟨#[]⟩),.sc (.int .i64 0),.sc (.int .i64 0),.sc (.bool false)]),nI (.store 7 z3 z5)] (sO [qI 6 (.faddr 0 z3),qI 7 (.load1 z6),qI 8 (.bint .eql z7 (cI 1)),mI 9 8,vI 10 9 (.mv z0),vI 11 9 (.nilc z10),vI 12 9 (.faddr 5 z11),vI 13 9 (.load1 z12),vI 14 9 (.faddr 1 z3),vI 15 9 (.load1 z14),vI 16 9 (.lkup false [.str] (.sc (.bool false)) false z13 z15),vI 17 9 (.not z16),qI 18 (.pick z9 z17 bF),mI 2 18] .ret)),19,[.tmp 2]⟩
theorem ok31 : compF prog 31 = some cf31:=by kernel_rfl
theorem ac31 : acB prog 31 = true:=by decide +kernel
def cf32 : CF:=⟨sO [qI 2 (.mv (.const (.string ⟨#[]⟩)))] (sO [mI 4 0,qI 5 (.call 15 [z4]),qI 3 (.alloc [.sc (.int .i64 0),.sc (.str ⟨#[]⟩),.sc (.int .i64 0),.sc (.str ⟨#[]⟩),.sc (.int .i64 0),.sc (.int .i64 0),.sc (.bool false)]),nI (.store 7 z3 z5)] (.seq (sO [mI 6 0,qI 7 (.faddr 1 z3),qI 8 (.load1 z7),qI 9 (.call 79 [z6,z8]),qI 10 (.not z9)] (.cond z10 (sO [mI 11 0,qI 12 (.call 34 [z11,cI 32])] (sO [qI 2 (.mv (.const (.string ⟨#[]⟩)))] .ret)) .skip)) (sO [mI 13 0,qI 14 (.nilc z13),qI 15 (.faddr 1 z14),qI 16 (.load1 z15),qI 17 (.bint .add z16 (cI 1)),qI 18 (.nilc z13),qI 19 (.faddr 1 z18),nI (.store 1 z19 z17)] (sO [qI 20 (.faddr 1 z3),qI 21 (.load1 z20),mI 2 21] .ret)))),22,[.tmp 2]⟩
theorem ok32 : compF prog 32 = some cf32:=by kernel_rfl
theorem ac32 : acB prog 32 = true:=by decide +kernel
def cf33 : CF:=⟨sO [mI 4 0,mI 5 1,qI 6 (.call 24 [z4,z5]),qI 7 (.not z6)] (.cond z7 (.ops [mI 8 0,qI 9 (.call 34 [z8,cI 13])]) .skip),10,[]⟩
theorem ok33 : compF prog 33 = some cf33:=by kernel_rfl
theorem ac33 : acB prog 33 = true:=by decide +kernel
def cf34 : CF:=⟨sO [mI 5 0,qI 6 (.nilc z5),qI 7 (.faddr 8 z6),qI 8 (.load1 z7),qI 9 (.bint .eql z8 (cI 0))] (.cond z9 (sO [mI 10 0,qI 11 (.call 15 [z10]),qI 4 (.alloc [.sc (.int .i64 0),.sc (.str ⟨#[]⟩),.sc (.int .i64 0),.sc (.str ⟨#[]⟩),.sc (.int .i64 0),.sc (.int .i64 0),.sc (.bool false)]),nI (.store 7 z4 z11)] (.ops [mI 12 0,mI 13 0,mI 14 0,mI 15 1,qI 16 (.faddr 4 z4),qI 17 (.load1 z16),qI 18 (.faddr 5 z4),qI 19 (.load1 z18),qI 20 (.nilc z12),qI 21 (.faddr 8 z20),⟨none,none,.store 1 z21 z15,[.load1 z18,.load1 z16]⟩,qI 22 (.nilc z13),qI 23 (.faddr 6 z22),⟨none,none,.store 1 z23 z17,[.load1 z18]⟩,qI 24 (.nilc z14),qI 25 (.faddr 7 z24),nI (.store 1 z25 z19)])) .skip),26,[]⟩
theorem ok34 : compF prog 34 = some cf34:=by kernel_rfl
theorem ac34 : acB prog 34 = true:=by decide +kernel
def cf35 : CF:=⟨sO [d71,d72,d64] (sO [d118,qI 6 d40,d119,qI 8 (.loadN 2 z7),d257,d12,vI 11 10 (.faddr 2 z2),d182,vI 13 10 d42,d183,vI 15 10 (.bstr .eql z12 z14),d209,mI 17 16,vI 18 17 (.faddr 3 z2),vI 19 17 (.loadN 2 z18),vI 20 17 d43,vI 21 17 (.loadN 2 z20),vI 22 17 (.bagg false [.int,.int] z19 z21),d210,mI 24 23,vI 25 24 (.faddr 5 z2),vI 26 24 (.load1 z25),vI 27 24 d44,vI 28 24 d30,vI 29 24 (.call 36 [z26,z28]),qI 30 (.pick z24 z29 bF),mI 4 30] .ret),31,[.tmp 4]⟩
theorem ok35 : compF prog 35 = some cf35:=by kernel_rfl
theorem ac35 : acB prog 35 = true:=by decide +kernel
def cf36 : CF:=⟨sO [d64] (.seq d293 (.seq (sO [d14,d84,d121] (.block 0 (.loop (sO [d225] (.seq d218 (.seq (.block 1 (sO [d24,d15] (sO [d16,d17,qI 18 (.iaddr 3 z16 z17),qI 19 (.loadN 3 z18),d18,mI 21 5,qI 22 (.iaddr 3 z20 z21),qI 23 (.loadN 3 z22),qI 24 (.bagg true [.int,.int,.int] z19 z23)] d265))) d273)))))) d205)),26,[.tmp 4]⟩
theorem ok36 : compF prog 36 = some cf36:=by kernel_rfl
theorem ac36 : acB prog 36 = true:=by decide +kernel
def cf37 : CF:=⟨sO [d65] (.seq d295 (.seq (sO [d13,d82,d120] (.block 0 (.loop (sO [d224] (.seq d217 (.seq (.block 1 (sO [mI 19 17,qI 20 (.iaddr 6 z15 z17),qI 21 (.loadN 6 z20),d291,mI 7 19,nI (.store 6 z8 z21)] (sO [mI 22 1,mI 23 7,qI 24 (.iaddr 6 z22 z23),qI 25 (.loadN 6 z24),qI 9 d288,nI (.store 6 z9 z25)] (sO [mI 26 2,qI 27 (.loadN 6 z8),qI 28 (.loadN 6 z9),d237,d83] d264)))) d272)))))) d203)),32,[.tmp 6]⟩
theorem ok37 : compF prog 37 = some cf37:=by kernel_rfl
theorem ac37 : acB prog 37 = true:=by decide +kernel
def cf38 : CF:=⟨sO [d65] (.seq d295 (.seq (sO [d13,d82,d120] (.block 0 (.loop (sO [d224] (.seq d217 (.seq (.block 1 (sO [mI 19 17,qI 20 (.iaddr 22 z15 z17),qI 21 (.loadN 22 z20),d316,mI 7 19,nI (.store 22 z8 z21)] (sO [mI 22 1,mI 23 7,qI 24 (.iaddr 22 z22 z23),qI 25 (.loadN 22 z24),d317,nI (.store 22 z9 z25)] (sO [mI 26 2,qI 27 (.loadN 22 z8),qI 28 (.loadN 22 z9),d237,d83] d264)))) d272)))))) d203)),32,[.tmp 6]⟩
theorem ok38 : compF prog 38 = some cf38:=by kernel_rfl
theorem ac38 : acB prog 38 = true:=by decide +kernel
def cf39 : CF:=⟨sO [d71,d72,d64] (sO [qI 5 (.loadN 22 z2),qI 7 (.loadN 22 z3),⟨some 6,none,.call 80 [z5],[.loadN 22 z3]⟩,qI 8 (.call 80 [z7]),qI 9 (.bagg false [.int,.int,.int,.int,.int,.int,.int,.int,.int,.int,.int,.int,.bool,.int,.int,.int,.int,.int,.int,.str] z6 z8),d12,vI 11 10 (.faddr 20 z2),d182,vI 13 10 (.faddr 20 z3),d183,vI 15 10 (.call 81 [z12,z14]),d209,mI 17 16,vI 18 17 (.faddr 21 z2),vI 19 17 (.load1 z18),vI 20 17 (.faddr 21 z3),vI 21 17 (.load1 z20),vI 22 17 (.call 82 [z19,z21,.func 83]),d210,mI 4 23] .ret),24,[.tmp 4]⟩
theorem ok39 : compF prog 39 = some cf39:=by kernel_rfl
theorem ac39 : acB prog 39 = true:=by decide +kernel
def cf40 : CF:=⟨sO [d64] (.seq d293 (.seq (sO [d14,d84,d121] (.block 0 (.loop (sO [d225] (.seq d218 (.seq (.block 1 (sO [d24,d15] (sO [d16,d17,qI 18 (.iaddr 7 z16 z17),qI 19 (.loadN 7 z18),d18,mI 21 5,qI 22 (.iaddr 7 z20 z21),qI 23 (.loadN 7 z22),qI 24 (.bagg true [.int,.int,.int,.int,.int,.int,.int] z19 z23)] d265))) d273)))))) d205)),26,[.tmp 4]⟩
theorem ok40 : compF prog 40 = some cf40:=by kernel_rfl
theorem ac40 : acB prog 40 = true:=by decide +kernel
def cf41 : CF:=⟨d322,26,[.tmp 4]⟩
theorem ok41 : compF prog 41 = some cf41:=by kernel_rfl
theorem ac41 : acB prog 41 = true:=by decide +kernel
def cf42 : CF:=⟨sO [d70,d258] (sO [qI 7 d38,qI 8 (.build [.sc (.str ⟨#[]⟩),.sc (.bool false),.sc .nils,.sc .nils,.sc .nils,.sc .nils,.sc (.int .i64 0),.sc .nils] [(0,(6,z7))]),qI 9 (.box z8),mI 3 9] (sO [mI 10 3,qI 11 (.mkf (.func 84) [z10] []),mI 12 3,qI 13 (.mkf (.func 85) [z12] []),mI 14 3,qI 15 (.mkf (.func 86) [z14] []),mI 16 3,qI 17 (.mkf (.func 87) [z16] []),mI 18 3,qI 19 (.mkf (.func 88) [z18] []),mI 20 3,qI 21 (.mkf (.func 89) [z20] []),mI 22 3,qI 23 (.mkf (.func 90) [z22] []),mI 24 3,qI 25 (.mkf (.func 91) [z24] []),mI 26 3,qI 27 (.mkf (.func 92) [z26] []),mI 28 3,qI 29 (.mkf (.func 93) [z28] []),mI 30 3,qI 31 (.mkf (.func 94) [z30] []),mI 32 3,qI 33 (.mkf (.func 95) [z32] []),mI 34 3,qI 35 (.mkf (.func 96) [z34] []),mI 36 3,qI 37 (.mkf (.func 97) [z36] []),mI 38 3,qI 39 (.mkf (.func 98) [z38] []),mI 40 3,qI 41 (.mkf (.func 99) [z40] []),mI 42 3,qI 43 (.mkf (.func 100) [z42] []),qI 44 (.bslice 17 1 [.sc .nilf] [(0,(1,z11)),(1,(1,z13)),(2,(1,z15)),(3,(1,z17)),(4,(1,z19)),(5,(1,z21)),(6,(1,z23)),(7,(1,z25)),(8,(1,z27)),(9,(1,z29)),(10,(1,z31)),(11,(1,z33)),(12,(1,z35)),(13,(1,z37)),(14,(1,z39)),(15,(1,z41)),(16,(1,z43))]),mI 4 44] (.seq (sO [mI 45 4,qI 46 (.len z45),qI 47 d29] (.block 0 (.loop (sO [qI 48 (.bint .lss z47 z46)] (.seq (.cond z48 .skip d10) (.seq (.block 1 (sO [mI 49 47,qI 50 (.iaddr 1 z45 z47),d152,mI 5 49,mI 6 51] (sO [mI 52 3,mI 53 5,qI 54 (.bint .add z53 (cI 1)),qI 55 (.nilc z52),qI 56 (.faddr 6 z55),nI (.store 1 z56 z54)] (.seq (sO [mI 57 3,qI 58 (.nilc z57),qI 59 (.faddr 7 z58),d140,qI 61 (.len z60),qI 62 (.bint .gtr z61 (cI 0)),mI 63 62,vI 64 63 (.mv z3),vI 65 63 (.nilc z64),vI 66 63 (.faddr 6 z65),vI 67 63 (.load1 z66),vI 68 63 (.bint .eql z67 (cI 2)),vI 69 63 (.mv z68),uI 70 69 (.mv z3),uI 71 69 (.nilc z70),uI 72 69 (.faddr 6 z71),uI 73 69 d34,uI 74 69 (.bint .geq z73 (cI 10)),uI 75 69 (.mv z74),vI 76 75 (.mv z3),vI 77 75 (.nilc z76),vI 78 75 (.faddr 7 z77),vI 79 75 (.load1 z78),vI 80 75 (.iaddr 3 z79 (cI 0)),vI 81 75 (.faddr 0 z80),vI 82 75 (.load1 z81),vI 83 75 (.bint .lss z82 (cI 10)),uI 84 69 (.pick z75 z83 bF),vI 85 63 (.pick z69 bT z84),qI 86 (.pick z63 z85 bF)] (.cond z86 d10 .skip)) (.ops [mI 87 6,qI 88 (.callv z87 [])]))))) (.ops [qI 89 (.bint .add z47 (cI 1)),mI 47 89]))))))) (sO [mI 90 3,qI 91 (.nilc z90),qI 92 (.faddr 7 z91),qI 93 (.load1 z92),mI 2 93] .ret)))),94,[.tmp 2]⟩
theorem ok42 : compF prog 42 = some cf42:=by kernel_rfl
theorem ac42 : acB prog 42 = true:=by decide +kernel
def cf43 : CF:=⟨sO [d70,qI 2 d288] (sO [qI 3 d37,d93,qI 5 (.call 101 [z4]),qI 6 d37,nI (.store 1 z6 z5)] (sO [qI 7 d38,nI (.store 6 z2 z7)] .ret)),8,[.cellN 6 2]⟩
theorem ok43 : compF prog 43 = some cf43:=by kernel_rfl
theorem ac43 : acB prog 43 = true:=by decide +kernel
def cf44 : CF:=⟨sO [d70,d318] (sO [qI 6 (.faddr 21 z1),d85,mI 3 7] (sO [qI 8 (.faddr 20 z1),d86,qI 10 (.call 102 [z9]),qI 11 (.faddr 20 z1),nI (.store 1 z11 z10),qI 12 (.faddr 21 z1),nI (.store 1 z12 (.const (.slice none 0 0)))] (.seq (sO [mI 13 3,d87,d122] (.block 0 (.loop (sO [d226] (.seq d219 (.seq (.block 1 (sO [d211,d168,d250,nI (.store 2 z5 z18)] (.ops [qI 19 (.faddr 21 z1),d123,qI 21 d40,⟨some 22,none,.call 103 [z21],[.load1 z19]⟩,qI 23 (.bslice 1 2 [.sc .nils,.sc .nils] [(0,(2,z22))]),qI 24 (.app 2 48 z20 z23),qI 25 (.faddr 21 z1),nI (.store 1 z25 z24)]))) (.ops [qI 26 d186,mI 15 26]))))))) (sO [qI 27 (.loadN 22 z1),nI (.store 22 z2 z27)] .ret)))),28,[.cellN 22 2]⟩
theorem ok44 : compF prog 44 = some cf44:=by kernel_rfl
theorem ac44 : acB prog 44 = true:=by decide +kernel
def cf45 : CF:=⟨sO [d258] (.seq d300 (sO [qI 5 (.eslice 0 7),d0,qI 7 (.app 7 56 z5 z6),mI 2 7] .ret)),8,[.tmp 2]⟩
theorem ok45 : compF prog 45 = some cf45:=by kernel_rfl
theorem ac45 : acB prog 45 = true:=by decide +kernel
def cf46 : CF:=⟨d314,8,[.tmp 2]⟩
theorem ok46 : compF prog 46 = some cf46:=by kernel_rfl
theorem ac46 : acB prog 46 = true:=by decide +kernel
def cf47 : CF:=⟨sO [qI 2 (.mv bF)] (.seq (sO [mI 3 0,qI 4 (.nilc z3),qI 5 (.faddr 14 z4),qI 6 (.load1 z5),qI 7 (.bint .eql z6 (cI 0)),mI 8 7,vI 9 8 (.mv z0),vI 10 8 (.nilc z9),vI 11 8 (.faddr 8 z10),vI 12 8 (.faddr 2 z11),vI 13 8 (.load1 z12),vI 14 8 (.bint .eql z13 (cI 4096)),qI 15 (.pick z8 z14 bF)] (.cond z15 (.ops [mI 16 0,qI 17 (.call 104 [z16,cI 9])]) .skip)) (.seq (sO [mI 18 0,qI 19 (.nilc z18),qI 20 (.faddr 14 z19),qI 21 (.load1 z20),qI 22 (.bint .neq z21 (cI 0))] (.cond z22 (sO [qI 2 (.mv bF)] .ret) .skip)) (sO [mI 23 0,qI 24 (.nilc z23),qI 25 (.faddr 8 z24),qI 26 (.faddr 2 z25),qI 27 (.load1 z26),qI 28 (.bint .add z27 (cI 1)),qI 29 (.nilc z23),qI 30 (.faddr 8 z29),qI 31 (.faddr 2 z30),nI (.store 1 z31 z28)] (sO [qI 2 (.mv bT)] .ret)))),32,[.tmp 2]⟩
theorem ok47 : compF prog 47 = some cf47:=by kernel_rfl
theorem ac47 : acB prog 47 = true:=by decide +kernel
def cf48 : CF:=⟨sO [qI 4 (.mv bF)] (.seq (sO [mI 6 0,qI 7 (.nilc z6),qI 8 (.faddr 0 z7),qI 9 (.load1 z8),mI 10 0,qI 11 (.nilc z10),qI 12 (.faddr 1 z11),qI 13 (.load1 z12),qI 14 (.idxS z9 z13),qI 15 (.call 105 [z14]),qI 16 (.not z15)] (.cond z16 (sO [qI 4 (.mv bF)] .ret) .skip)) (sO [mI 17 0,mI 18 0,qI 19 (.nilc z18),qI 20 (.faddr 1 z19),qI 21 (.load1 z20),qI 22 (.call 106 [z17,z21,.func 107]),mI 5 22] (.seq (sO [mI 23 5,mI 24 0,qI 25 (.nilc z24),qI 26 (.faddr 1 z25),qI 27 (.load1 z26),qI 28 (.bint .sub z23 z27),qI 29 (.bint .gtr z28 (cI 64))] (.cond z29 (.ops [mI 30 0,mI 31 0,qI 32 (.nilc z31),qI 33 (.faddr 1 z32),qI 34 (.load1 z33),qI 35 (.call 54 [z30,z34,cI 5])]) .skip)) (sO [mI 36 0,qI 37 (.build [.sc (.int .i64 0),.sc (.str ⟨#[]⟩),.sc (.int .i64 0),.sc (.str ⟨#[]⟩),.sc (.int .i64 0),.sc (.int .i64 0),.sc (.bool false)] [(0,(1,cI 1))]),mI 38 5,mI 39 1,qI 40 (.call 53 [z36,z37,z38,z39])] (sO [qI 4 (.mv bT)] .ret))))),41,[.tmp 4]⟩
theorem ok48 : compF prog 48 = some cf48:=by kernel_rfl
theorem ac48 : acB prog 48 = true:=by decide +kernel
def cf49 : CF:=⟨sO [qI 4 (.mv bF)] (.seq (sO [mI 8 0,qI 9 (.nilc z8),qI 10 (.faddr 0 z9),qI 11 (.load1 z10),mI 12 0,qI 13 (.nilc z12),qI 14 (.faddr 1 z13),qI 15 (.load1 z14),qI 16 (.idxS z11 z15),qI 17 (.call 108 [z16]),qI 18 (.not z17)] (.cond z18 (sO [qI 4 (.mv bF)] .ret) .skip)) (sO [mI 19 0,mI 20 0,qI 21 (.nilc z20),qI 22 (.faddr 1 z21),qI 23 (.load1 z22),qI 24 (.call 106 [z19,z23,.func 108]),mI 5 24] (.seq (sO [mI 25 5,mI 26 0,qI 27 (.nilc z26),qI 28 (.faddr 1 z27),qI 29 (.load1 z28),qI 30 (.bint .sub z25 z29),qI 31 (.bint .gtr z30 (cI 15))] (.cond z31 (sO [mI 32 0,mI 33 0,qI 34 (.nilc z33),qI 35 (.faddr 1 z34),qI 36 (.load1 z35),qI 37 (.call 54 [z32,z36,cI 5])] (sO [qI 4 (.mv bT)] .ret)) .skip)) (sO [mI 39 0,qI 40 (.nilc z39),qI 41 (.faddr 0 z40),qI 42 (.load1 z41),mI 43 0,qI 44 (.nilc z43),qI 45 (.faddr 1 z44),qI 46 (.load1 z45),mI 47 5,qI 48 (.slcS z42 (some z46) (some z47)),qI 49 (.call 109 [z48]),mI 38 49,qI 50 (.ext z38 0),qI 51 (.ext z38 1),mI 6 50,mI 7 51] (sO [mI 52 0,mI 53 6,qI 54 (.build [.sc (.int .i64 0),.sc (.str ⟨#[]⟩),.sc (.int .i64 0),.sc (.str ⟨#[]⟩),.sc (.int .i64 0),.sc (.int .i64 0),.sc (.bool false)] [(0,(1,cI 2)),(2,(1,z53))]),mI 55 5,mI 56 1,qI 57 (.call 53 [z52,z54,z55,z56])] (sO [qI 4 (.mv bT)] .ret)))))),58,[.tmp 4]⟩
theorem ok49 : compF prog 49 = some cf49:=by kernel_rfl
theorem ac49 : acB prog 49 = true:=by decide +kernel
def cf50 : CF:=⟨sO [qI 4 (.mv bF)] (.seq (sO [mI 10 0,qI 11 (.nilc z10),qI 12 (.faddr 0 z11),qI 13 (.load1 z12),mI 14 0,qI 15 (.nilc z14),qI 16 (.faddr 1 z15),qI 17 (.load1 z16),qI 18 (.idxS z13 z17),qI 19 (.bint .neq z18 (.const (.int .u8 34)))] (.cond z19 (sO [qI 4 (.mv bF)] .ret) .skip)) (sO [qI 5 (.alloc [.sc .nilp,.sc .nils])] (.seq (sO [mI 20 0,qI 21 (.nilc z20),qI 22 (.faddr 1 z21),qI 23 (.load1 z22),qI 24 (.bint .add z23 (cI 1)),mI 6 24] (.block 0 (.loop (.seq (sO [mI 25 6,mI 26 0,qI 27 (.nilc z26),qI 28 (.faddr 0 z27),qI 29 (.load1 z28),qI 30 (.lenS z29),qI 31 (.bint .lss z25 z30)] (.cond z31 .skip (.exit 0))) (.block 1 (sO [mI 32 0,qI 33 (.nilc z32),qI 34 (.faddr 0 z33),qI 35 (.load1 z34),mI 36 6,qI 37 (.idxS z35 z36),mI 7 37] (.block 2 (sO [mI 42 7,qI 43 (.bint .eql z42 (.const (.int .u8 34))),mI 41 43] (.cond z41 (.seq (sO [qI 44 (.call 110 [z5]),qI 45 (.bint .gtr z44 (cI 4096))] (.cond z45 (.ops [mI 46 0,mI 47 0,qI 48 (.nilc z47),qI 49 (.faddr 1 z48),qI 50 (.load1 z49),qI 51 (.call 54 [z46,z50,cI 5])]) .skip)) (sO [mI 52 0,qI 53 (.call 111 [z5]),qI 54 (.build [.sc (.int .i64 0),.sc (.str ⟨#[]⟩),.sc (.int .i64 0),.sc (.str ⟨#[]⟩),.sc (.int .i64 0),.sc (.int .i64 0),.sc (.bool false)] [(0,(1,cI 3)),(3,(1,z53))]),mI 55 6,qI 56 (.bint .add z55 (cI 1)),mI 57 1,qI 58 (.call 53 [z52,z54,z56,z57])] (sO [qI 4 (.mv bT)] .ret))) (sO [mI 60 7,qI 61 (.call 112 [z60]),mI 59 61] (.cond z59 (sO [mI 62 7,qI 63 (.call 113 [z5,z62])] (.ops [mI 64 6,qI 65 (.bint .add z64 (cI 1)),mI 6 65])) (sO [mI 67 7,qI 68 (.bint .eql z67 (.const (.int .u8 92))),mI 66 68] (.cond z66 (sO [mI 70 0,qI 71 (.nilc z70),qI 72 (.faddr 0 z71),qI 73 (.load1 z72),mI 74 6,qI 75 (.bint .add z74 (cI 1)),qI 76 (.slcS z73 (some z75) none),qI 77 (.call 114 [z76,z5]),mI 69 77,qI 78 (.ext z69 0),qI 79 (.ext z69 1),mI 8 78,mI 9 79] (.seq (sO [mI 80 9,mI 81 80,vI 82 81 (.mv z6),vI 83 81 (.bint .add z82 (cI 1)),vI 84 81 (.mv z8),vI 85 81 (.bint .add z83 z84),vI 86 81 (.mv z0),vI 87 81 (.nilc z86),vI 88 81 (.faddr 0 z87),vI 89 81 (.load1 z88),vI 90 81 (.lenS z89),vI 91 81 (.bint .eql z85 z90),qI 92 (.pick z81 z91 bF)] (.cond z92 (sO [mI 93 0,mI 94 0,qI 95 (.nilc z94),qI 96 (.faddr 1 z95),qI 97 (.load1 z96),qI 98 (.call 54 [z93,z97,cI 4])] (sO [qI 4 (.mv bT)] .ret)) .skip)) (.seq (sO [mI 99 9] (.cond z99 (sO [mI 100 0,mI 101 6,qI 102 (.bint .add z101 (cI 1)),mI 103 8,qI 104 (.bint .add z102 z103),qI 105 (.call 54 [z100,z104,cI 6])] (sO [qI 4 (.mv bT)] .ret)) .skip)) (.ops [mI 106 6,mI 107 8,qI 108 (.bint .add (cI 1) z107),qI 109 (.bint .add z106 z108),mI 6 109])))) (sO [mI 38 0,mI 39 6,qI 40 (.call 54 [z38,z39,cI 6])] (sO [qI 4 (.mv bT)] .ret))))))))))))))) (sO [mI 110 0,mI 111 0,qI 112 (.nilc z111),qI 113 (.faddr 1 z112),qI 114 (.load1 z113),qI 115 (.call 54 [z110,z114,cI 4])] (sO [qI 4 (.mv bT)] .ret))))),116,[.tmp 4]⟩
theorem ok50 : compF prog 50 = some cf50:=by kernel_rfl
theorem ac50 : acB prog 50 = true:=by decide +kernel
def cf51 : CF:=⟨sO [qI 4 (.mv bF)] (.seq (sO [mI 5 0,qI 6 (.nilc z5),qI 7 (.faddr 0 z6),qI 8 (.load1 z7),mI 9 0,qI 10 (.nilc z9),qI 11 (.faddr 1 z10),qI 12 (.load1 z11),qI 13 (.idxS z8 z12),qI 14 (.call 115 [.const (.string ⟨#[33,35,36,38,39,40,41,42,43,44,45,46,47,58,59,60,61,62,63,64,91,92,93,94,95,123,124,125,126]⟩),z13]),qI 15 (.bint .lss z14 (cI 0))] (.cond z15 (sO [qI 4 (.mv bF)] .ret) .skip)) (sO [mI 16 0,qI 17 (.build [.sc (.int .i64 0),.sc (.str ⟨#[]⟩),.sc (.int .i64 0),.sc (.str ⟨#[]⟩),.sc (.int .i64 0),.sc (.int .i64 0),.sc (.bool false)] [(0,(1,cI 4))]),mI 18 0,qI 19 (.nilc z18),qI 20 (.faddr 1 z19),qI 21 (.load1 z20),qI 22 (.bint .add z21 (cI 1)),mI 23 1,qI 24 (.call 53 [z16,z17,z22,z23])] (sO [qI 4 (.mv bT)] .ret))),25,[.tmp 4]⟩
theorem ok51 : compF prog 51 = some cf51:=by kernel_rfl
theorem ac51 : acB prog 51 = true:=by decide +kernel
def cf52 : CF:=⟨sO [qI 2 (.mv bF)] (sO [mI 5 0,qI 6 (.nilc z5),qI 7 (.faddr 1 z6),qI 8 (.load1 z7),mI 3 8] (.seq .skip (.seq (.block 0 (.loop (.seq (sO [mI 9 0,qI 10 (.nilc z9),qI 11 (.faddr 1 z10),qI 12 (.load1 z11),mI 13 0,qI 14 (.nilc z13),qI 15 (.faddr 0 z14),qI 16 (.load1 z15),qI 17 (.lenS z16),qI 18 (.bint .lss z12 z17)] (.cond z18 .skip (.exit 0))) (.block 1 (sO [mI 19 0,qI 20 (.nilc z19),qI 21 (.faddr 0 z20),qI 22 (.load1 z21),mI 23 0,qI 24 (.nilc z23),qI 25 (.faddr 1 z24),qI 26 (.load1 z25),qI 27 (.idxS z22 z26),mI 4 27] (.block 2 (sO [mI 29 4,qI 30 (.bint .eql z29 (.const (.int .u8 37))),mI 28 30] (.cond z28 (.ops [mI 31 0,mI 32 0,mI 33 0,qI 34 (.nilc z33),qI 35 (.faddr 1 z34),qI 36 (.load1 z35),qI 37 (.call 106 [z32,z36,.func 116]),qI 38 (.nilc z31),qI 39 (.faddr 1 z38),nI (.store 1 z39 z37)]) (sO [mI 41 4,qI 42 (.call 117 [z41]),mI 40 42] (.cond z40 (.ops [mI 43 0,qI 44 (.nilc z43),qI 45 (.faddr 1 z44),qI 46 (.load1 z45),qI 47 (.bint .add z46 (cI 1)),qI 48 (.nilc z43),qI 49 (.faddr 1 z48),nI (.store 1 z49 z47)]) (.exit 0))))))))))) (sO [mI 50 0,qI 51 (.nilc z50),qI 52 (.faddr 1 z51),qI 53 (.load1 z52),mI 54 3,qI 55 (.bint .gtr z53 z54),mI 2 55] .ret)))),56,[.tmp 2]⟩
theorem ok52 : compF prog 52 = some cf52:=by kernel_rfl
theorem ac52 : acB prog 52 = true:=by decide +kernel
def cf53 : CF:=⟨sO [qI 5 (.box z1)] (sO [mI 8 0,qI 9 (.nilc z8),qI 10 (.faddr 0 z9),qI 11 (.load1 z10),mI 12 0,qI 13 (.nilc z12),qI 14 (.faddr 1 z13),qI 15 (.load1 z14),mI 16 2,qI 17 (.slcS z11 (some z15) (some z16)),mI 18 3,mI 19 18,vI 20 19 (.mv z0),vI 21 19 (.nilc z20),vI 22 19 (.faddr 3 z21),vI 23 19 (.load1 z22),vI 24 19 (.len z23),vI 25 19 (.bint .gtr z24 (cI 0)),qI 26 (.pick z19 z25 bF),qI 27 (.faddr 1 z5),⟨none,none,.store 1 z27 z17,[.load1 z22]⟩,qI 28 (.faddr 6 z5),nI (.store 1 z28 z26)] (sO [mI 30 0,mI 31 0,qI 32 (.nilc z31),qI 33 (.faddr 1 z32),qI 34 (.load1 z33),qI 35 (.call 22 [z30,z34]),mI 29 35,qI 36 (.ext z29 0),qI 37 (.ext z29 1),qI 38 (.faddr 4 z5),nI (.store 1 z38 z36),qI 39 (.faddr 5 z5),nI (.store 1 z39 z37)] (.ops [mI 40 0,mI 41 0,mI 42 0,qI 43 (.nilc z42),qI 44 (.faddr 3 z43),qI 45 (.load1 z44),qI 46 (.loadN 7 z5),qI 47 (.bslice 1 7 [.sc (.int .i64 0),.sc (.str ⟨#[]⟩),.sc (.int .i64 0),.sc (.str ⟨#[]⟩),.sc (.int .i64 0),.sc (.int .i64 0),.sc (.bool false)] [(0,(7,z46))]),mI 49 2,qI 48 (.app 7 72 z45 z47),qI 50 (.nilc z40),qI 51 (.faddr 3 z50),nI (.store 1 z51 z48),qI 52 (.nilc z41),qI 53 (.faddr 1 z52),nI (.store 1 z53 z49)]))),54,[]⟩
theorem ok53 : compF prog 53 = some cf53:=by kernel_rfl
theorem ac53 : acB prog 53 = true:=by decide +kernel
def cf55 : CF:=⟨sO [qI 4 (.mv bF)] (sO [mI 5 0,mI 6 1,qI 7 (.call 118 [z5,z6]),qI 8 (.bint .geq z7 (cI 0)),mI 4 8] .ret),9,[.tmp 4]⟩
theorem ok55 : compF prog 55 = some cf55:=by kernel_rfl
theorem ac55 : acB prog 55 = true:=by decide +kernel
def cf56 : CF:=⟨sO [qI 4 (.mv bF)] (sO [mI 5 0,qI 6 (.load1 z1),qI 7 (.load1 z2),qI 8 (.callv z5 [z6,z7]),mI 4 8] .ret),9,[.tmp 4]⟩
theorem ok56 : compF prog 56 = some cf56:=by kernel_rfl
theorem ac56 : acB prog 56 = true:=by decide +kernel
def cf57 : CF:=⟨sO [qI 4 (.mv (cI 0)),qI 5 (.mv bF)] (sO [mI 10 0,qI 11 (.len z10),mI 6 11] (sO [mI 12 6,qI 7 (.mv (cI 0)),mI 8 12] (.seq (.block 0 (.loop (.seq (sO [mI 13 7,mI 14 8,qI 15 (.bint .lss z13 z14)] (.cond z15 .skip (.exit 0))) (.block 1 (sO [mI 16 7,mI 17 8,qI 18 (.bint .add z16 z17),qI 19 (.conv .u64 z18),qI 20 (.shft .shr z19 (.const (.int .u64 1))),qI 21 (.conv .i64 z20),mI 9 21] (sO [mI 22 0,mI 23 9,qI 24 (.iaddr 1 z22 z23),qI 25 (.load1 z24),mI 26 1,qI 27 (.call 119 [z25,z26])] (.cond z27 (.ops [mI 28 9,qI 29 (.bint .add z28 (cI 1)),mI 7 29]) (.ops [mI 30 9,mI 8 30])))))))) (sO [mI 31 7,mI 32 7,mI 33 6,qI 34 (.bint .lss z32 z33),mI 35 34,vI 36 35 (.mv z0),vI 37 35 (.mv z7),vI 38 35 (.iaddr 1 z36 z37),vI 39 35 (.load1 z38),vI 40 35 (.mv z1),vI 41 35 (.bint .eql z39 z40),vI 42 35 (.mv z41),uI 43 42 (.mv z0),uI 44 42 (.mv z7),uI 45 42 (.iaddr 1 z43 z44),uI 46 42 (.load1 z45),uI 47 42 (.call 120 [z46]),uI 48 42 (.mv z47),vI 49 48 (.mv z1),vI 50 48 (.call 120 [z49]),uI 51 42 (.pick z48 z50 bF),vI 52 35 (.pick z42 bT z51),qI 53 (.pick z35 z52 bF),mI 4 31,mI 5 53] .ret)))),54,[.tmp 4,.tmp 5]⟩
theorem ok57 : compF prog 57 = some cf57:=by kernel_rfl
theorem ac57 : acB prog 57 = true:=by decide +kernel
def cf58 : CF:=⟨sO [qI 8 (.mv bT)] (sO [qI 9 (.mv bT)] (.block 0 (.loop (.block 1 (sO [mI 19 2,d18,qI 21 (.bint .sub z19 z20),mI 10 21] (.seq (sO [mI 22 10,qI 23 (.bint .leq z22 (cI 12))] (.cond z23 (sO [mI 24 0,mI 25 1,mI 26 2,qI 27 (.call 121 [z24,z25,z26])] .ret) .skip)) (.seq (sO [mI 28 3,qI 29 (.bint .eql z28 (cI 0))] (.cond z29 (sO [mI 30 0,mI 31 1,mI 32 2,qI 33 (.call 122 [z30,z31,z32])] .ret) .skip)) (.seq (sO [mI 34 8,qI 35 (.not z34)] (.cond z35 (sO [mI 36 0,mI 37 1,mI 38 2,qI 39 (.call 123 [z36,z37,z38])] (.ops [mI 40 3,qI 41 (.bint .sub z40 (cI 1)),mI 3 41])) .skip)) (sO [mI 43 0,mI 44 1,mI 45 2,qI 46 (.call 124 [z43,z44,z45]),mI 42 46,qI 47 (.ext z42 0),qI 48 (.ext z42 1),mI 11 47,mI 12 48] (.seq (sO [mI 49 12,qI 50 (.bint .eql z49 (cI 2))] (.cond z50 (sO [mI 51 0,mI 52 1,mI 53 2,qI 54 (.call 125 [z51,z52,z53])] (sO [mI 55 2,qI 56 (.bint .sub z55 (cI 1)),mI 57 11,mI 58 1,qI 59 (.bint .sub z57 z58),qI 60 (.bint .sub z56 z59),mI 11 60] (.ops [qI 12 d31]))) .skip)) (.seq (sO [mI 61 8,mI 62 61,vI 63 62 (.mv z9),qI 64 (.pick z62 z63 bF),mI 65 64,vI 66 65 (.mv z12),vI 67 65 (.bint .eql z66 (cI 1)),qI 68 (.pick z65 z67 bF)] (.cond z68 (sO [mI 69 0,mI 70 1,mI 71 2,qI 72 (.call 126 [z69,z70,z71])] (.cond z72 .ret .skip)) .skip)) (.seq (sO [mI 73 1,qI 74 (.bint .gtr z73 (cI 0)),mI 75 74,vI 76 75 d3,vI 77 75 d5,vI 78 75 (.bint .sub z77 (cI 1)),vI 79 75 (.iaddr 1 z76 z78),vI 80 75 (.load1 z79),vI 81 75 d3,vI 82 75 (.mv z11),vI 83 75 (.iaddr 1 z81 z82),vI 84 75 (.load1 z83),vI 85 75 (.call 127 [z80,z84]),vI 86 75 (.not z85),qI 87 (.pick z75 z86 bF)] (.cond z87 (sO [mI 88 0,mI 89 1,mI 90 2,mI 91 11,qI 92 (.call 128 [z88,z89,z90,z91]),mI 13 92] (sO [mI 93 13,mI 1 93] (.exit 1))) .skip)) (sO [mI 95 0,mI 96 1,mI 97 2,mI 98 11,qI 99 (.call 129 [z95,z96,z97,z98]),mI 94 99,qI 100 (.ext z94 0),qI 101 (.ext z94 1),mI 14 100,mI 15 101] (sO [mI 102 15,mI 9 102] (sO [mI 103 14,mI 104 1,qI 105 (.bint .sub z103 z104),mI 106 2,mI 107 14,qI 108 (.bint .sub z106 z107),mI 16 105,mI 17 108] (sO [mI 109 10,qI 110 (.bint .quo z109 (cI 8)),mI 18 110] (sO [mI 111 16,mI 112 17,qI 113 (.bint .lss z111 z112)] (.cond z113 (sO [mI 114 16,mI 115 18,qI 116 (.bint .geq z114 z115),mI 8 116] (sO [mI 117 0,mI 118 1,mI 119 14,mI 120 3,qI 121 (.call 58 [z117,z118,z119,z120])] (.ops [mI 122 14,qI 123 (.bint .add z122 (cI 1)),mI 1 123]))) (sO [mI 124 17,mI 125 18,qI 126 (.bint .geq z124 z125),mI 8 126] (sO [mI 127 0,mI 128 14,qI 129 (.bint .add z128 (cI 1)),mI 130 2,mI 131 3,qI 132 (.call 58 [z127,z129,z130,z131])] (.ops [mI 133 14,mI 2 133]))))))))))))))))))))),134,[]⟩
theorem ok58 : compF prog 58 = some cf58:=by kernel_rfl
theorem ac58 : acB prog 58 = true:=by decide +kernel
def cf59 : CF:=⟨sO [d102] (.seq (.cond bF (sO [d1,qI 4 (.conv .u32 z3),qI 5 (.call 130 [z4]),mI 2 5] .ret) .skip) (sO [d0,qI 7 (.call 131 [z6]),mI 2 7] .ret)),8,[.tmp 2]⟩
theorem ok59 : compF prog 59 = some cf59:=by kernel_rfl
theorem ac59 : acB prog 59 = true:=by decide +kernel
def cf60 : CF:=⟨sO [qI 4 (.mv bF)] (sO [mI 6 0,qI 7 (.call 15 [z6]),qI 5 (.alloc [.sc (.int .i64 0),.sc (.str ⟨#[]⟩),.sc (.int .i64 0),.sc (.str ⟨#[]⟩),.sc (.int .i64 0),.sc (.int .i64 0),.sc (.bool false)]),nI (.store 7 z5 z7)] (sO [qI 8 (.faddr 0 z5),qI 9 (.load1 z8),qI 10 (.bint .eql z9 (cI 1)),mI 11 10,uI 12 11 (.faddr 0 z5),uI 13 11 (.load1 z12),uI 14 11 (.bint .eql z13 (cI 4)),qI 15 (.pick z11 bT z14),mI 16 15,vI 17 16 (.faddr 1 z5),vI 18 16 (.load1 z17),vI 19 16 (.mv z1),vI 20 16 (.bstr .eql z18 z19),qI 21 (.pick z16 z20 bF),mI 4 21] .ret)),22,[.tmp 4]⟩
theorem ok60 : compF prog 60 = some cf60:=by kernel_rfl
theorem ac60 : acB prog 60 = true:=by decide +kernel
def cf61 : CF:=⟨sO [qI 2 (.mv (cI 0))] (sO [qI 3 (.mv (cI 0))] (.seq (sO [mI 6 0,qI 7 (.nilc z6),qI 8 (.faddr 4 z7),qI 9 (.load1 z8),qI 10 (.len z9),qI 11 (.mv (cI 0))] (.block 0 (.loop (sO [qI 12 (.bint .lss z11 z10)] (.seq (.cond z12 .skip (.exit 0)) (.seq (.block 1 (sO [qI 13 (.iaddr 1 z9 z11),qI 14 (.load1 z13),mI 5 14] (.ops [mI 15 3,mI 16 5,qI 17 (.lenM z16),qI 18 (.bint .add z15 z17),mI 3 18]))) (.ops [qI 19 (.bint .add z11 (cI 1)),mI 11 19]))))))) (sO [mI 20 3,mI 2 20] .ret))),21,[.tmp 2]⟩
theorem ok61 : compF prog 61 = some cf61:=by kernel_rfl
theorem ac61 : acB prog 61 = true:=by decide +kernel
def cf63 : CF:=⟨sO [qI 2 (.mv (.const .nilFunc))] (sO [mI 4 0,qI 5 (.call 132 [z4]),mI 3 5] (.seq (.block 0 (.loop (.seq (sO [mI 6 0,qI 7 (.call 24 [z6,.const (.string ⟨#[97,110,100]⟩)])] (.cond z7 .skip (.exit 0))) (.block 1 (.ops [mI 8 3,mI 9 0,qI 10 (.call 132 [z9]),qI 11 (.call 64 [z8,z10,.func 133]),mI 3 11]))))) (sO [mI 12 3,mI 2 12] .ret))),13,[.tmp 2]⟩
theorem ok63 : compF prog 63 = some cf63:=by kernel_rfl
theorem ac63 : acB prog 63 = true:=by decide +kernel
def cf64 : CF:=⟨sO [qI 3 (.box z0),qI 4 (.box z1),qI 5 (.box z2),qI 6 (.mv (.const .nilFunc))] (sO [qI 7 (.mkf (.func 134) [] [z3,z4,z5]),mI 6 7] .ret),8,[.tmp 6]⟩
theorem ok64 : compF prog 64 = some cf64:=by kernel_rfl
theorem ac64 : acB prog 64 = true:=by decide +kernel
def cf65 : CF:=⟨sO [d100] (sO [mI 7 1,d233,mI 9 8,uI 10 9 d8,uI 11 9 (.bint .neq z10 (cI 0)),qI 12 (.pick z9 bT z11),qI 13 (.call 66 [z12]),mI 6 13] .ret),14,[.tmp 6]⟩
theorem ok65 : compF prog 65 = some cf65:=by kernel_rfl
theorem ac65 : acB prog 65 = true:=by decide +kernel
def cf66 : CF:=⟨sO [qI 2 (.mv (cI 0))] (.seq (sO [mI 3 0] (.cond z3 (sO [qI 2 (.mv (cI 1))] .ret) .skip)) (sO [qI 2 (.mv (cI 0))] .ret)),4,[.tmp 2]⟩
theorem ok66 : compF prog 66 = some cf66:=by kernel_rfl
theorem ac66 : acB prog 66 = true:=by decide +kernel
def cf67 : CF:=⟨.seq (sO [mI 4 0,mI 5 1,qI 6 (.call 60 [z4,z5]),qI 7 (.not z6)] (.cond z7 (sO [mI 8 0,qI 9 (.call 34 [z8,cI 13])] .ret) .skip)) (.seq (sO [mI 10 0,qI 11 (.nilc z10),qI 12 (.faddr 2 z11),qI 13 (.load1 z12),qI 14 (.bint .eql z13 (cI 16))] (.cond z14 (sO [mI 15 0,qI 16 (.call 34 [z15,cI 9])] .ret) .skip)) (sO [mI 17 0,qI 18 (.nilc z17),qI 19 (.faddr 1 z18),qI 20 (.load1 z19),qI 21 (.bint .add z20 (cI 1)),qI 22 (.nilc z17),qI 23 (.faddr 1 z22),nI (.store 1 z23 z21)] (.ops [mI 24 0,qI 25 (.nilc z24),qI 26 (.faddr 2 z25),qI 27 (.load1 z26),qI 28 (.bint .add z27 (cI 1)),qI 29 (.nilc z24),qI 30 (.faddr 2 z29),nI (.store 1 z30 z28)]))),31,[]⟩
theorem ok67 : compF prog 67 = some cf67:=by kernel_rfl
theorem ac67 : acB prog 67 = true:=by decide +kernel
def cf68 : CF:=⟨sO [mI 4 0,mI 5 1,qI 6 (.call 33 [z4,z5])] (.ops [mI 7 0,qI 8 (.nilc z7),qI 9 (.faddr 2 z8),qI 10 (.load1 z9),qI 11 (.bint .sub z10 (cI 1)),qI 12 (.nilc z7),qI 13 (.faddr 2 z12),nI (.store 1 z13 z11)]),14,[]⟩
theorem ok68 : compF prog 68 = some cf68:=by kernel_rfl
theorem ac68 : acB prog 68 = true:=by decide +kernel
def cf69 : CF:=⟨sO [d103] (.seq (sO [d0,d73,d104] (.block 0 (.loop (sO [d206] (.seq d213 (.seq (.block 1 (sO [mI 10 8,mI 5 10] (sO [d20,d21,mI 13 5,qI 14 (.iaddr 1 z12 z13),d131,d214] d267))) d268)))))) d246),19,[.tmp 4]⟩
theorem ok69 : compF prog 69 = some cf69:=by kernel_rfl
theorem ac69 : acB prog 69 = true:=by decide +kernel
def cf79 : CF:=⟨sO [qI 3 (.box z1),qI 4 (.mv bF)] (sO [mI 5 0,qI 6 (.nilc z5),qI 7 (.faddr 4 z6),qI 8 (.load1 z7),qI 9 (.mkf (.func 149) [] [z3]),qI 10 (.call 148 [z8,z9]),mI 4 10] .ret),11,[.tmp 4]⟩
theorem ok79 : compF prog 79 = some cf79:=by kernel_rfl
theorem ac79 : acB prog 79 = true:=by decide +kernel
def cf80 : CF:=⟨sO [d70,qI 2 (.alloc [.sc (.int .i64 0),.sc (.int .i64 0),.sc (.int .i64 0),.sc (.int .i64 0),.sc (.int .i64 0),.sc (.int .i64 0),.sc (.int .i64 0),.sc (.int .i64 0),.sc (.int .i64 0),.sc (.int .i64 0),.sc (.int .i64 0),.sc (.int .i64 0),.sc (.bool false),.sc (.int .i64 0),.sc (.int .i64 0),.sc (.int .i64 0),.sc (.int .i64 0),.sc (.int .i64 0),.sc (.int .i64 0),.sc (.str ⟨#[]⟩)])] (sO [d124,qI 4 d46,qI 5 d35,qI 6 (.loadN 8 z5),qI 7 d59,d88,qI 9 (.faddr 11 z1),d98,qI 11 (.faddr 12 z1),d125,qI 13 (.faddr 13 z1),d112,qI 15 (.faddr 14 z1),d126,qI 17 (.faddr 15 z1),d127,qI 19 (.faddr 16 z1),d123,qI 21 (.faddr 17 z1),d128,qI 23 (.faddr 18 z1),d129,qI 25 (.faddr 19 z1),d130,qI 27 (.build [.sc (.int .i64 0),.sc (.int .i64 0),.sc (.int .i64 0),.sc (.int .i64 0),.sc (.int .i64 0),.sc (.int .i64 0),.sc (.int .i64 0),.sc (.int .i64 0),.sc (.int .i64 0),.sc (.int .i64 0),.sc (.int .i64 0),.sc (.int .i64 0),.sc (.bool false),.sc (.int .i64 0),.sc (.int .i64 0),.sc (.int .i64 0),.sc (.int .i64 0),.sc (.int .i64 0),.sc (.int .i64 0),.sc (.str ⟨#[]⟩)] [(0,(2,z4)),(2,(8,z6)),(10,(1,z8)),(11,(1,z10)),(12,(1,z12)),(13,(1,z14)),(14,(1,z16)),(15,(1,z18)),(16,(1,z20)),(17,(1,z22)),(18,(1,z24)),(19,(1,z26))]),nI (.store 20 z2 z27)] .ret),28,[.cellN 20 2]⟩
theorem ok80 : compF prog 80 = some cf80:=by kernel_rfl
theorem ac80 : acB prog 80 = true:=by decide +kernel
def cf81 : CF:=⟨sO [d64] (.seq d293 (.seq (sO [d14,d84,d121] (.block 0 (.loop (sO [d225] (.seq d218 (.seq (.block 1 (sO [d24,d15] (sO [d16,d17,qI 18 (.iaddr 3 z16 z17),qI 19 (.loadN 3 z18),d18,mI 21 5,qI 22 (.iaddr 3 z20 z21),qI 23 (.loadN 3 z22),qI 24 (.bagg true [.int,.int,.bool] z19 z23)] d265))) d273)))))) d205)),26,[.tmp 4]⟩
theorem ok81 : compF prog 81 = some cf81:=by kernel_rfl
theorem ac81 : acB prog 81 = true:=by decide +kernel
def cf82 : CF:=⟨d323,32,[.tmp 6]⟩
theorem ok82 : compF prog 82 = some cf82:=by kernel_rfl
theorem ac82 : acB prog 82 = true:=by decide +kernel
def cf83 : CF:=⟨sO [d71,d72,d64] (sO [d118,d89,d119,d88,qI 9 (.call 150 [z6,z8]),d12,vI 11 10 d47,d182,vI 13 10 d48,d183,vI 15 10 (.call 151 [z12,z14,.func 152]),d209,mI 4 16] .ret),17,[.tmp 4]⟩
theorem ok83 : compF prog 83 = some cf83:=by kernel_rfl
theorem ac83 : acB prog 83 = true:=by decide +kernel
def cf84 : CF:=⟨.seq (sO [d14,d99,d169,qI 14 (.faddr 2 z13),d131,d82,d120] (.block 0 (.loop (sO [d224] (.seq d217 (.seq (.block 1 (sO [qI 19 (.iaddr 6 z15 z17),qI 20 (.loadN 6 z19),d290,nI (.store 6 z3 z20)] (.ops [mI 21 0,qI 22 d42,d148,qI 39 d41,qI 40 (.loadN 2 z39),⟨some 24,none,.call 154 [z23],[.loadN 2 z39]⟩,qI 25 (.not z24),mI 26 25,uI 27 26 d44,uI 28 26 d30,uI 29 26 (.len z28),⟨some 30,some (some 26,false),.call 155 [z29,cI 1,cI 4],[.loadN 2 z39]⟩,uI 31 26 (.not z30),qI 32 (.pick z26 bT z31),mI 33 32,uI 34 33 d43,uI 35 33 (.loadN 2 z34),⟨some 36,some (some 33,false),.call 156 [z35],[.loadN 2 z39]⟩,uI 37 33 (.bint .neq z36 (cI 0)),d215,qI 41 (.call 153 [z21,z38,z40])]))) (.ops [qI 42 d184,mI 17 42]))))))) (.seq (sO [mI 43 0,qI 44 (.nilc z43),qI 45 (.faddr 0 z44),qI 46 (.faddr 3 z45),d153,qI 48 (.len z47),d154] (.block 2 (.loop (sO [d229] (.seq (.cond z50 .skip d11) (.seq (.block 3 (sO [qI 51 (.iaddr 22 z47 z49),qI 52 (.loadN 22 z51),d319,nI (.store 22 z5 z52)] (sO [qI 53 (.faddr 19 z5),d138,qI 55 (.call 154 [z54]),qI 56 (.not z55),mI 57 56,uI 58 57 (.faddr 20 z5),uI 59 57 (.load1 z58),uI 60 57 (.len z59),uI 61 57 (.bint .gtr z60 (cI 64)),qI 62 (.pick z57 bT z61),mI 6 62] (.seq (sO [qI 63 (.faddr 21 z5),qI 64 (.load1 z63),qI 65 (.len z64),qI 66 d29] (.block 4 (.loop (sO [qI 67 (.bint .lss z66 z65)] (.seq (.cond z67 .skip d23) (.seq (.block 5 (sO [qI 68 (.iaddr 2 z64 z66),qI 69 (.loadN 2 z68),d251,nI (.store 2 z8 z69)] (sO [mI 70 6,mI 71 70,uI 72 71 (.faddr 0 z8),uI 73 71 d34,uI 74 71 (.len z73),uI 75 71 (.bint .gtr z74 (cI 64)),qI 76 (.pick z71 bT z75),mI 77 76,uI 78 77 d54,uI 79 77 (.load1 z78),uI 80 77 (.len z79),uI 81 77 (.bint .gtr z80 (cI 2)),qI 82 (.pick z77 bT z81),mI 6 82] (sO [qI 83 d54,qI 84 (.load1 z83),qI 85 (.len z84),qI 86 d29] (.block 6 (.loop (sO [qI 87 (.bint .lss z86 z85)] (.seq (.cond z87 .skip (.exit 6)) (.seq (.block 7 (sO [qI 88 (.iaddr 2 z84 z86),qI 89 (.loadN 2 z88),qI 10 d238,nI (.store 2 z10 z89)] (.ops [mI 90 6,mI 91 90,uI 92 91 (.faddr 0 z10),uI 93 91 (.load1 z92),uI 94 91 (.len z93),uI 95 91 (.bint .gtr z94 (cI 128)),qI 96 (.pick z91 bT z95),mI 97 96,uI 98 97 d62,uI 99 97 (.load1 z98),uI 100 97 (.len z99),uI 101 97 (.bint .gtr z100 (cI 16)),qI 102 (.pick z97 bT z101),mI 6 102]))) (.ops [qI 103 (.bint .add z86 (cI 1)),mI 86 103])))))))))) (.ops [qI 104 d193,mI 66 104]))))))) (.ops [mI 105 0,mI 106 6,qI 107 d50,qI 108 (.loadN 2 z107),qI 109 (.call 153 [z105,z106,z108])]))))) (.ops [qI 110 d196,mI 49 110]))))))) (.ops [mI 111 0,mI 112 0,qI 113 (.nilc z112),qI 114 (.faddr 0 z113),qI 115 (.faddr 0 z114),qI 116 (.load1 z115),qI 117 (.call 154 [z116]),qI 118 (.not z117),mI 119 118,uI 120 119 d3,uI 121 119 (.nilc z120),uI 122 119 (.faddr 0 z121),uI 123 119 (.faddr 2 z122),uI 124 119 (.load1 z123),uI 125 119 (.len z124),uI 126 119 (.call 155 [z125,cI 1,cI 32]),uI 127 119 (.not z126),qI 128 (.pick z119 bT z127),mI 129 128,uI 130 129 d3,uI 131 129 (.nilc z130),uI 132 129 (.faddr 0 z131),uI 133 129 (.faddr 3 z132),uI 134 129 (.load1 z133),uI 135 129 (.len z134),uI 136 129 (.call 155 [z135,cI 1,cI 1024]),uI 137 129 (.not z136),qI 138 (.pick z129 bT z137),mI 139 138,uI 140 139 d3,uI 141 139 (.nilc z140),uI 142 139 (.faddr 0 z141),uI 143 139 (.faddr 4 z142),uI 144 139 (.load1 z143),uI 145 139 (.len z144),uI 146 139 (.bint .gtr z145 (cI 4096)),qI 147 (.pick z139 bT z146),mI 148 147,uI 149 148 d3,uI 150 148 (.nilc z149),uI 151 148 (.faddr 0 z150),uI 152 148 (.faddr 5 z151),uI 153 148 (.load1 z152),uI 154 148 (.len z153),uI 155 148 (.bint .gtr z154 (cI 100)),qI 156 (.pick z148 bT z155),qI 157 d276,qI 158 (.call 153 [z111,z156,z157])])),159,[]⟩
theorem ok84 : compF prog 84 = some cf84:=by kernel_rfl
theorem ac84 : acB prog 84 = true:=by decide +kernel
def cf85 : CF:=⟨sO [qI 8 .mkmap,mI 2 8] (.seq (sO [d6,d97,d178,d171,qI 13 (.call 157 [z12]),d87,d122] (.block 0 (.loop (sO [d226] (.seq d219 (.seq (.block 1 (sO [d211,d168,qI 4 d270,nI (.store 2 z4 z18)] (sO [mI 19 0,qI 20 d53,qI 40 d53,⟨some 21,none,.call 158 [z20],[.loadN 2 z4]⟩,qI 22 (.not z21),mI 23 22,uI 24 23 d8,uI 25 23 d53,uI 26 23 (.lkup true [.int,.int] (.sc (.bool false)) false z24 z25),qI 27 (.pick z23 bT z26),mI 28 27,uI 29 28 d57,uI 30 28 (.load1 z29),uI 31 28 d3,uI 32 28 (.nilc z31),uI 33 28 (.faddr 0 z32),uI 34 28 (.loadN 6 z33),uI 35 28 d49,uI 36 28 (.load1 z35),⟨some 37,some (some 28,false),.call 159 [z34,z36],[.load1 z29,.loadN 2 z4]⟩,uI 38 28 (.bint .gtr z30 z37),qI 39 (.pick z28 bT z38),qI 41 (.call 153 [z19,z39,z40])] (.ops [mI 42 2,qI 43 d53,nI (.mpup true [.int,.int] z42 z43 bT)])))) (.ops [qI 44 d186,mI 15 44]))))))) (sO [d67] (.seq (sO [mI 45 0,qI 46 (.nilc z45),qI 47 (.faddr 0 z46),qI 48 (.faddr 5 z47),d117,qI 50 (.len z49),qI 51 d29] (.block 2 (.loop (sO [qI 52 (.bint .lss z51 z50)] (.seq (.cond z52 .skip d11) (.seq (.block 3 (sO [mI 53 51,qI 54 (.iaddr 2 z49 z51),qI 55 (.loadN 2 z54),qI 7 d270,mI 6 53,nI (.store 2 z7 z55)] (.ops [mI 56 5,mI 57 56,uI 58 57 (.loadN 2 z7),uI 59 57 (.call 158 [z58]),uI 60 57 (.not z59),qI 61 (.pick z57 bT z60),mI 62 61,uI 63 62 (.mv z6),uI 64 62 (.bint .gtr z63 (cI 0)),uI 65 62 (.mv z64),vI 66 65 (.faddr 0 z7),vI 67 65 (.load1 z66),vI 68 65 d3,vI 69 65 (.nilc z68),vI 70 65 (.faddr 0 z69),vI 71 65 (.faddr 5 z70),vI 72 65 (.load1 z71),vI 73 65 (.mv z6),vI 74 65 (.bint .sub z73 (cI 1)),vI 75 65 (.iaddr 2 z72 z74),vI 76 65 (.faddr 0 z75),vI 77 65 (.load1 z76),vI 78 65 (.bint .leq z67 z77),uI 79 62 (.pick z65 z78 bF),qI 80 (.pick z62 bT z79),mI 5 80]))) (.ops [qI 81 (.bint .add z51 (cI 1)),mI 51 81]))))))) (.ops [mI 82 0,mI 83 5,qI 84 d276,qI 85 (.call 153 [z82,z83,z84])])))),86,[]⟩
theorem ok85 : compF prog 85 = some cf85:=by kernel_rfl
theorem ac85 : acB prog 85 = true:=by decide +kernel
def cf86 : CF:=⟨sO [d1,d77,qI 5 d49,qI 6 (.loadN 6 z5),qI 7 (.call 160 [z6]),qI 2 d227,nI (.store 1 z2 z7)] (.ops [mI 8 0,qI 9 (.mkf (.func 162) [] [z2]),qI 10 (.call 161 [z8,z9])]),11,[]⟩
theorem ok86 : compF prog 86 = some cf86:=by kernel_rfl
theorem ac86 : acB prog 86 = true:=by decide +kernel
def cf87 : CF:=⟨.seq (sO [d0,d78,qI 8 (.faddr 0 z7),qI 9 (.faddr 2 z8),d98,d81,d155] (.block 0 (.loop (sO [d230] (.seq d222 (.seq (.block 1 (sO [qI 14 (.iaddr 6 z10 z12),qI 15 (.loadN 6 z14),d290,nI (.store 6 z3 z15)] (sO [qI 16 d44,d156,d92,d145] (.block 2 (.loop (sO [d228] (.seq (.cond z20 .skip d11) (.seq (.block 3 (sO [qI 21 (.iaddr 3 z17 z19),qI 22 (.loadN 3 z21),qI 5 (.alloc [.sc (.int .i64 0),.sc (.int .i64 0),.sc (.int .i64 0)]),nI (.store 3 z5 z22)] (.ops [mI 23 0,qI 24 (.faddr 2 z5),d157,qI 28 d50,qI 29 (.loadN 2 z28),⟨some 26,none,.call 163 [z25],[.loadN 2 z28]⟩,qI 27 (.bint .neq z26 (cI 0)),qI 30 (.call 153 [z23,z27,z29])]))) (.ops [qI 31 d188,mI 19 31]))))))))) (.ops [qI 32 d197,mI 12 32]))))))) (.ops [mI 33 0,qI 34 (.call 161 [z33,.func 164])]),35,[]⟩
theorem ok87 : compF prog 87 = some cf87:=by kernel_rfl
theorem ac87 : acB prog 87 = true:=by decide +kernel
def cf88 : CF:=⟨sO [d70] (.ops [d90,qI 3 (.mkf (.func 166) [] [z1]),qI 4 (.call 161 [z2,z3])]),5,[]⟩
theorem ok88 : compF prog 88 = some cf88:=by kernel_rfl
theorem ac88 : acB prog 88 = true:=by decide +kernel
def cf89 : CF:=⟨.ops [mI 2 0,qI 3 (.call 168 [z2,.func 169])],4,[]⟩
theorem ok89 : compF prog 89 = some cf89:=by kernel_rfl
theorem ac89 : acB prog 89 = true:=by decide +kernel
def cf90 : CF:=⟨.ops [mI 2 0,qI 3 (.call 168 [z2,.func 170])],4,[]⟩
theorem ok90 : compF prog 90 = some cf90:=by kernel_rfl
theorem ac90 : acB prog 90 = true:=by decide +kernel
def cf91 : CF:=⟨.ops [mI 2 0,qI 3 (.call 171 [z2,.func 172])],4,[]⟩
theorem ok91 : compF prog 91 = some cf91:=by kernel_rfl
theorem ac91 : acB prog 91 = true:=by decide +kernel
def cf92 : CF:=⟨sO [d70] (.ops [d90,qI 3 (.mkf (.func 174) [] [z1]),d212]),5,[]⟩
theorem ok92 : compF prog 92 = some cf92:=by kernel_rfl
theorem ac92 : acB prog 92 = true:=by decide +kernel
def cf93 : CF:=⟨sO [d70] (.ops [d90,qI 3 (.mkf (.func 182) [] [z1]),d212]),5,[]⟩
theorem ok93 : compF prog 93 = some cf93:=by kernel_rfl
theorem ac93 : acB prog 93 = true:=by decide +kernel
def cf94 : CF:=⟨sO [qI 7 .mkmap,qI 2 (.alloc [.sc .nilm]),nI (.store 1 z2 z7)] (sO [mI 8 0,d80,qI 10 d51,qI 11 (.loadN 6 z10),qI 12 (.call 160 [z11]),mI 3 12] (.seq (sO [mI 13 3,qI 14 d29] (.block 0 (.loop (sO [qI 15 (.bint .lss z14 z13)] (.seq (.cond z15 .skip d10) (.seq (.block 1 (sO [mI 16 14,mI 4 16] (sO [d120] (.block 2 (.loop (sO [qI 18 (.bint .lss z17 (cI 2))] (.seq (.cond z18 .skip d11) (.seq (.block 3 (sO [mI 19 17,mI 5 19] (sO [d160] (.block 4 (.loop (sO [qI 21 (.bint .lss z20 (cI 4))] (.seq (.cond z21 .skip d23) (.seq (.block 5 (sO [mI 22 20,mI 6 22] (.ops [mI 23 0,mI 24 4,mI 25 5,mI 26 6,qI 27 d28,qI 28 (.call 187 [z23,z24,z25,z26,z27])]))) (.ops [qI 29 d190,mI 20 29]))))))))) d274)))))))) d275)))))) (.ops [mI 32 0,qI 33 (.mkf (.func 188) [] [z2]),qI 34 (.call 171 [z32,z33])]))),35,[]⟩
theorem ok94 : compF prog 94 = some cf94:=by kernel_rfl
theorem ac94 : acB prog 94 = true:=by decide +kernel
def cf95 : CF:=⟨sO [d2,qI 8 (.call 189 [z7]),mI 6 8,qI 9 (.ext z6 0),qI 10 (.ext z6 1),mI 2 9,mI 3 10] (sO [d14,d99,d169,qI 14 (.faddr 4 z13),d131,d82,d120] (.block 0 (.loop (sO [d224] (.seq d217 (.seq (.block 1 (sO [mI 19 17,qI 20 (.iaddr 7 z15 z17),qI 21 (.loadN 7 z20),d304,mI 4 19,nI (.store 7 z5 z21)] (.ops [mI 22 0,mI 23 3,mI 24 4,qI 25 (.iaddr 1 z23 z24),d130,qI 27 d50,qI 28 (.loadN 2 z27),qI 29 (.call 153 [z22,z26,z28])]))) d274)))))),31,[]⟩
theorem ok95 : compF prog 95 = some cf95:=by kernel_rfl
theorem ac95 : acB prog 95 = true:=by decide +kernel
def cf96 : CF:=⟨sO [d6,qI 10 (.call 189 [z9]),mI 8 10,qI 11 (.ext z8 0),qI 12 (.ext z8 1),mI 2 11,mI 3 12] (sO [d22,d108,d175,qI 16 (.faddr 4 z15),d156,d92,d145] (.block 0 (.loop (sO [d228] (.seq (.cond z20 .skip d10) (.seq (.block 1 (sO [mI 21 19,qI 22 (.iaddr 7 z17 z19),qI 23 (.loadN 7 z22),d304,mI 4 21,nI (.store 7 z5 z23)] (sO [d65] (.seq (sO [d101] (.block 2 (.loop (.seq (sO [mI 24 7,mI 25 4,qI 26 (.bint .lss z24 z25),mI 27 26,vI 28 27 (.mv z3),vI 29 27 (.mv z4),vI 30 27 (.iaddr 1 z28 z29),vI 31 27 (.load1 z30),vI 32 27 (.not z31),qI 33 (.pick z27 z32 bF),mI 34 33,vI 35 34 (.mv z6),vI 36 34 (.not z35),qI 37 (.pick z34 z36 bF)] (.cond z37 .skip d11)) (.seq (.block 3 (.ops [mI 40 3,mI 41 7,qI 42 (.iaddr 1 z40 z41),qI 43 (.load1 z42),qI 44 (.not z43),mI 45 44,vI 46 45 d8,vI 47 45 (.mv z7),vI 48 45 (.iaddr 9 z46 z47),vI 49 45 (.loadN 9 z48),vI 50 45 d8,vI 51 45 (.mv z4),vI 52 45 (.iaddr 9 z50 z51),vI 53 45 (.loadN 9 z52),vI 54 45 (.call 190 [z49,z53]),qI 55 (.pick z45 z54 bF),mI 6 55])) (.ops [mI 38 7,qI 39 (.bint .add z38 (cI 1)),mI 7 39])))))) (.ops [mI 56 0,mI 57 6,qI 58 d50,qI 59 (.loadN 2 z58),qI 60 (.call 153 [z56,z57,z59])]))))) (.ops [qI 61 d188,mI 19 61]))))))),62,[]⟩
theorem ok96 : compF prog 96 = some cf96:=by kernel_rfl
theorem ac96 : acB prog 96 = true:=by decide +kernel
def cf97 : CF:=⟨sO [mI 8 0,d80,qI 10 (.faddr 7 z9),d134,d84,mI 2 12] (sO [d22,qI 14 (.call 161 [z13,.func 191])] (.seq (sO [d13,d111,qI 17 (.faddr 7 z16),d127,d96,mI 20 2,qI 21 (.bint .gtr z19 z20)] (.cond z21 .ret .skip)) (sO [qI 3 d292] (sO [qI 4 (.mv bT)] (.seq (sO [mI 22 0,qI 23 (.nilc z22),qI 24 (.faddr 0 z23),qI 25 (.faddr 3 z24),d130,qI 27 (.len z26),qI 28 d29] (.block 0 (.loop (sO [qI 29 (.bint .lss z28 z27)] (.seq (.cond z29 .skip d10) (.seq (.block 1 (sO [qI 30 (.iaddr 22 z26 z28),qI 31 (.loadN 22 z30),qI 6 d315,nI (.store 22 z6 z31)] (sO [qI 33 (.loadN 6 z3),qI 34 (.loadN 22 z6),qI 35 (.call 192 [z33,z34]),mI 32 35,qI 36 (.ext z32 0),qI 37 (.ext z32 1),nI (.store 6 z3 z36),mI 4 37] (sO [mI 38 4,qI 39 (.not z38)] (.cond z39 (sO [mI 40 0,qI 41 (.faddr 0 z6),qI 42 (.loadN 2 z41),qI 43 (.call 153 [z40,bT,z42])] .ret) .skip))))) (.ops [qI 44 (.bint .add z28 (cI 1)),mI 28 44]))))))) (sO [qI 45 d41,d116,mI 47 46,vI 48 47 d43,vI 49 47 (.load1 z48),vI 50 47 (.bint .eql z49 (cI 0)),qI 51 (.pick z47 z50 bF),mI 52 51,uI 53 52 d43,uI 54 52 (.load1 z53),uI 55 52 (.bint .neq z54 (cI 0)),uI 56 52 (.mv z55),vI 57 56 (.loadN 6 z3),vI 58 56 (.call 193 [z57]),vI 59 56 (.not z58),uI 60 52 (.pick z56 z59 bF),qI 61 (.pick z52 bT z60),mI 7 61] (.ops [mI 62 0,mI 63 7,mI 64 0,qI 65 (.nilc z64),qI 66 (.faddr 0 z65),qI 67 (.faddr 3 z66),qI 68 (.load1 z67),mI 69 0,qI 70 (.nilc z69),qI 71 (.faddr 0 z70),qI 72 (.faddr 3 z71),qI 73 d34,qI 74 (.len z73),qI 75 (.bint .sub z74 (cI 1)),qI 76 (.iaddr 22 z68 z75),qI 77 (.faddr 0 z76),qI 78 (.loadN 2 z77),qI 79 (.call 153 [z62,z63,z78])]))))))),80,[]⟩
theorem ok97 : compF prog 97 = some cf97:=by kernel_rfl
theorem ac97 : acB prog 97 = true:=by decide +kernel
def cf98 : CF:=⟨sO [d70] (.ops [d90,qI 3 (.mkf (.func 194) [] [z1]),qI 4 (.call 161 [z2,z3])]),5,[]⟩
theorem ok98 : compF prog 98 = some cf98:=by kernel_rfl
theorem ac98 : acB prog 98 = true:=by decide +kernel
def cf99 : CF:=⟨.ops [mI 2 0,qI 3 (.call 161 [z2,.func 198])],4,[]⟩
theorem ok99 : compF prog 99 = some cf99:=by kernel_rfl
theorem ac99 : acB prog 99 = true:=by decide +kernel
def cf100 : CF:=⟨sO [d70] (.ops [d90,qI 3 (.mkf (.func 199) [] [z1]),d212]),5,[]⟩
theorem ok100 : compF prog 100 = some cf100:=by kernel_rfl
theorem ac100 : acB prog 100 = true:=by decide +kernel
def cf101 : CF:=⟨d312,8,[.tmp 2]⟩
theorem ok101 : compF prog 101 = some cf101:=by kernel_rfl
theorem ac101 : acB prog 101 = true:=by decide +kernel
def cf102 : CF:=⟨d312,8,[.tmp 2]⟩
theorem ok102 : compF prog 102 = some cf102:=by kernel_rfl
theorem ac102 : acB prog 102 = true:=by decide +kernel
def cf103 : CF:=⟨sO [d70,d254] (sO [d143,d85,qI 8 (.call 200 [z7]),qI 9 (.build [.sc .nils,.sc .nils] [(0,(1,z8))]),d255,nI (.store 2 z3 z9)] (.seq (sO [qI 10 d52,d134,d84,d121] (.block 0 (.loop (sO [d225] (.seq d218 (.seq (.block 1 (sO [qI 15 (.iaddr 2 z11 z13),qI 16 (.loadN 2 z15),d250,nI (.store 2 z5 z16)] (.ops [qI 17 d48,d127,qI 19 d40,⟨some 20,none,.call 201 [z19],[.load1 z17]⟩,qI 21 (.bslice 1 2 [.sc .nils,.sc .nils] [(0,(2,z20))]),qI 22 (.app 2 48 z18 z21),qI 23 d48,d192]))) (.ops [qI 24 d185,mI 13 24]))))))) (sO [qI 25 d46,nI (.store 2 z2 z25)] .ret))),26,[.cellN 2 2]⟩
theorem ok103 : compF prog 103 = some cf103:=by kernel_rfl
theorem ac103 : acB prog 103 = true:=by decide +kernel
def cf104 : CF:=⟨sO [mI 4 0,qI 5 (.nilc z4),qI 6 (.faddr 14 z5),qI 7 (.load1 z6),qI 8 (.bint .eql z7 (cI 0))] (.cond z8 (.ops [mI 9 0,mI 10 1,qI 11 (.nilc z9),qI 12 (.faddr 14 z11),nI (.store 1 z12 z10)]) .skip),13,[]⟩
theorem ok104 : compF prog 104 = some cf104:=by kernel_rfl
theorem ac104 : acB prog 104 = true:=by decide +kernel
def cf105 : CF:=⟨sO [qI 2 (.mv bF)] (sO [mI 3 0,qI 4 (.bint .geq z3 (.const (.int .u8 97))),mI 5 4,vI 6 5 (.mv z0),vI 7 5 (.bint .leq z6 (.const (.int .u8 122))),qI 8 (.pick z5 z7 bF),mI 9 8,uI 10 9 (.mv z0),uI 11 9 (.bint .geq z10 (.const (.int .u8 65))),uI 12 9 (.mv z11),vI 13 12 (.mv z0),vI 14 12 (.bint .leq z13 (.const (.int .u8 90))),uI 15 9 (.pick z12 z14 bF),qI 16 (.pick z9 bT z15),mI 2 16] .ret),17,[.tmp 2]⟩
theorem ok105 : compF prog 105 = some cf105:=by kernel_rfl
theorem ac105 : acB prog 105 = true:=by decide +kernel
def cf106 : CF:=⟨sO [qI 6 (.mv (cI 0))] (.seq (.block 0 (.loop (.seq (sO [mI 7 1,mI 8 0,qI 9 (.nilc z8),qI 10 (.faddr 0 z9),qI 11 (.load1 z10),qI 12 (.lenS z11),qI 13 (.bint .lss z7 z12),mI 14 13,vI 15 14 (.mv z2),vI 16 14 (.mv z0),vI 17 14 (.nilc z16),vI 18 14 (.faddr 0 z17),vI 19 14 (.load1 z18),vI 20 14 (.mv z1),vI 21 14 (.idxS z19 z20),vI 22 14 (.callv z15 [z21]),qI 23 (.pick z14 z22 bF)] (.cond z23 .skip (.exit 0))) (.block 1 (.ops [mI 24 1,qI 25 (.bint .add z24 (cI 1)),mI 1 25]))))) (sO [mI 26 1,mI 6 26] .ret)),27,[.tmp 6]⟩
theorem ok106 : compF prog 106 = some cf106:=by kernel_rfl
theorem ac106 : acB prog 106 = true:=by decide +kernel
def cf107 : CF:=⟨sO [qI 2 (.mv bF)] (sO [mI 3 0,qI 4 (.call 105 [z3]),mI 5 4,uI 6 5 (.mv z0),uI 7 5 (.call 108 [z6]),qI 8 (.pick z5 bT z7),mI 9 8,uI 10 9 (.mv z0),uI 11 9 (.bint .eql z10 (.const (.int .u8 95))),qI 12 (.pick z9 bT z11),mI 2 12] .ret),13,[.tmp 2]⟩
theorem ok107 : compF prog 107 = some cf107:=by kernel_rfl
theorem ac107 : acB prog 107 = true:=by decide +kernel
def cf108 : CF:=⟨sO [qI 2 (.mv bF)] (sO [mI 3 0,qI 4 (.bint .geq z3 (.const (.int .u8 48))),mI 5 4,vI 6 5 (.mv z0),vI 7 5 (.bint .leq z6 (.const (.int .u8 57))),qI 8 (.pick z5 z7 bF),mI 2 8] .ret),9,[.tmp 2]⟩
theorem ok108 : compF prog 108 = some cf108:=by kernel_rfl
theorem ac108 : acB prog 108 = true:=by decide +kernel
def cf116 : CF:=⟨sO [qI 2 (.mv bF)] (sO [mI 3 0,qI 4 (.bint .neq z3 (.const (.int .u8 10))),mI 2 4] .ret),5,[.tmp 2]⟩
theorem ok116 : compF prog 116 = some cf116:=by kernel_rfl
theorem ac116 : acB prog 116 = true:=by decide +kernel
def cf117 : CF:=⟨sO [qI 2 (.mv bF)] (sO [mI 3 0,qI 4 (.bint .eql z3 (.const (.int .u8 32))),mI 5 4,uI 6 5 (.mv z0),uI 7 5 (.bint .eql z6 (.const (.int .u8 9))),qI 8 (.pick z5 bT z7),mI 9 8,uI 10 9 (.mv z0),uI 11 9 (.bint .eql z10 (.const (.int .u8 10))),qI 12 (.pick z9 bT z11),mI 13 12,uI 14 13 (.mv z0),uI 15 13 (.bint .eql z14 (.const (.int .u8 13))),qI 16 (.pick z13 bT z15),mI 2 16] .ret),17,[.tmp 2]⟩
theorem ok117 : compF prog 117 = some cf117:=by kernel_rfl
theorem ac117 : acB prog 117 = true:=by decide +kernel
def cf118 : CF:=⟨sO [qI 4 (.mv (cI 0))] (.seq (sO [mI 6 0,qI 7 (.len z6),qI 8 (.mv (cI 0))] (.block 0 (.loop (sO [qI 9 (.bint .lss z8 z7)] (.seq (.cond z9 .skip (.exit 0)) (.seq (.block 1 (sO [mI 10 8,mI 5 10] (sO [mI 11 1,mI 12 0,mI 13 5,qI 14 (.iaddr 1 z12 z13),qI 15 (.load1 z14),qI 16 (.callv z11 [z15])] (.cond z16 (sO [mI 17 5,mI 4 17] .ret) .skip)))) (.ops [qI 18 (.bint .add z8 (cI 1)),mI 8 18]))))))) (sO [qI 4 (.mv (cI (-1)))] .ret)),19,[.tmp 4]⟩
theorem ok118 : compF prog 118 = some cf118:=by kernel_rfl
theorem ac118 : acB prog 118 = true:=by decide +kernel
def cf119 : CF:=⟨sO [qI 4 (.mv bF)] (sO [mI 5 0,qI 6 (.call 207 [z5]),mI 7 6,vI 8 7 (.mv z1),vI 9 7 (.call 207 [z8]),vI 10 7 (.not z9),qI 11 (.pick z7 z10 bF),mI 12 11,uI 13 12 (.mv z0),uI 14 12 (.mv z1),uI 15 12 (.bint .lss z13 z14),qI 16 (.pick z12 bT z15),mI 4 16] .ret),17,[.tmp 4]⟩
theorem ok119 : compF prog 119 = some cf119:=by kernel_rfl
theorem ac119 : acB prog 119 = true:=by decide +kernel
def cf120 : CF:=⟨sO [qI 2 (.mv bF)] (sO [mI 3 0,mI 4 0,qI 5 (.bint .neq z3 z4),mI 2 5] .ret),6,[.tmp 2]⟩
theorem ok120 : compF prog 120 = some cf120:=by kernel_rfl
theorem ac120 : acB prog 120 = true:=by decide +kernel
def cf121 : CF:=⟨sO [mI 8 1,qI 9 d170,mI 6 9] (.block 0 (.loop (.seq (sO [mI 10 6,mI 11 2,qI 12 (.bint .lss z10 z11)] d220) (.seq (.block 1 (sO [mI 15 6,mI 7 15] (.block 2 (.loop (.seq (sO [mI 16 7,mI 17 1,qI 18 (.bint .gtr z16 z17),mI 19 18,vI 20 19 d3,vI 21 19 (.mv z7),vI 22 19 (.iaddr 1 z20 z21),vI 23 19 (.load1 z22),vI 24 19 d3,vI 25 19 (.mv z7),vI 26 19 (.bint .sub z25 (cI 1)),vI 27 19 (.iaddr 1 z24 z26),vI 28 19 d30,vI 29 19 (.call 127 [z23,z28]),qI 30 (.pick z19 z29 bF)] (.cond z30 .skip d11)) (.seq (.block 3 (.ops [mI 33 0,mI 34 7,mI 35 0,mI 36 7,qI 37 (.bint .sub z36 (cI 1)),mI 38 0,mI 39 7,qI 40 (.bint .sub z39 (cI 1)),qI 41 (.iaddr 1 z38 z40),qI 42 (.load1 z41),mI 43 0,mI 44 7,qI 45 (.iaddr 1 z43 z44),d116,qI 47 (.iaddr 1 z33 z34),nI (.store 1 z47 z42),qI 48 (.iaddr 1 z35 z37),nI (.store 1 z48 z46)])) (.ops [mI 31 7,qI 32 (.bint .sub z31 (cI 1)),mI 7 32]))))))) (.ops [mI 13 6,qI 14 d185,mI 6 14]))))),49,[]⟩
theorem ok121 : compF prog 121 = some cf121:=by kernel_rfl
theorem ac121 : acB prog 121 = true:=by decide +kernel
def cf122 : CF:=⟨sO [d20,mI 6 11] (sO [d101] (sO [mI 12 2,mI 13 1,qI 14 (.bint .sub z12 z13),mI 8 14] (.seq (sO [mI 15 8,qI 16 (.bint .sub z15 (cI 1)),qI 17 (.bint .quo z16 (cI 2)),mI 9 17] (.block 0 (.loop (.seq (sO [mI 18 9,qI 19 (.bint .geq z18 (cI 0))] d223) (.seq (.block 1 (.ops [mI 22 0,mI 23 9,mI 24 8,mI 25 6,qI 26 (.call 208 [z22,z23,z24,z25])])) (.ops [mI 20 9,qI 21 (.bint .sub z20 (cI 1)),mI 9 21])))))) (sO [mI 27 8,qI 28 (.bint .sub z27 (cI 1)),mI 10 28] (.block 2 (.loop (.seq (sO [mI 29 10,qI 30 (.bint .geq z29 (cI 0))] (.cond z30 .skip d11)) (.seq (.block 3 (sO [mI 33 0,mI 34 6,mI 35 0,mI 36 6,mI 37 10,qI 38 (.bint .add z36 z37),mI 39 0,mI 40 6,mI 41 10,qI 42 (.bint .add z40 z41),qI 43 (.iaddr 1 z39 z42),d150,mI 45 0,mI 46 6,qI 47 (.iaddr 1 z45 z46),qI 48 (.load1 z47),qI 49 (.iaddr 1 z33 z34),nI (.store 1 z49 z44),qI 50 (.iaddr 1 z35 z38),nI (.store 1 z50 z48)] (.ops [mI 51 0,mI 52 7,mI 53 10,mI 54 6,qI 55 (.call 208 [z51,z52,z53,z54])]))) (.ops [mI 31 10,qI 32 (.bint .sub z31 (cI 1)),mI 10 32]))))))))),56,[]⟩
theorem ok122 : compF prog 122 = some cf122:=by kernel_rfl
theorem ac122 : acB prog 122 = true:=by decide +kernel
def cf123 : CF:=⟨sO [mI 11 2,mI 12 1,qI 13 (.bint .sub z11 z12),mI 6 13] (sO [mI 14 6,qI 15 (.bint .geq z14 (cI 8))] (.cond z15 (sO [mI 16 6,qI 17 (.conv .u64 z16),qI 7 (.alloc [.sc (.int .u64 0)]),nI (.store 1 z7 z17)] (sO [mI 18 6,qI 19 (.call 209 [z18]),mI 8 19] (sO [d18,mI 21 6,qI 22 (.bint .quo z21 (cI 4)),qI 23 (.bint .mul z22 (cI 2)),qI 24 (.bint .add z20 z23),qI 25 (.bint .sub z24 (cI 1)),mI 9 25] (.block 0 (.loop (.seq (sO [mI 26 9,mI 27 1,mI 28 6,qI 29 (.bint .quo z28 (cI 4)),qI 30 (.bint .mul z29 (cI 2)),qI 31 (.bint .add z27 z30),qI 32 (.bint .add z31 (cI 1)),qI 33 (.bint .leq z26 z32)] (.cond z33 .skip d10)) (.seq (.block 1 (sO [qI 36 (.call 210 [z7]),mI 37 8,qI 38 (.bint .sub z37 (.const (.int .u64 1))),qI 39 (.bint .and z36 z38),qI 40 (.conv .i64 z39),mI 10 40] (.seq (sO [mI 41 10,mI 42 6,qI 43 (.bint .geq z41 z42)] (.cond z43 (.ops [mI 44 10,mI 45 6,qI 46 (.bint .sub z44 z45),mI 10 46]) .skip)) (.ops [mI 47 0,mI 48 9,mI 49 0,mI 50 1,mI 51 10,qI 52 (.bint .add z50 z51),mI 53 0,mI 54 1,mI 55 10,qI 56 (.bint .add z54 z55),qI 57 (.iaddr 1 z53 z56),qI 58 (.load1 z57),mI 59 0,mI 60 9,qI 61 (.iaddr 1 z59 z60),qI 62 (.load1 z61),qI 63 (.iaddr 1 z47 z48),nI (.store 1 z63 z58),qI 64 (.iaddr 1 z49 z52),nI (.store 1 z64 z62)])))) (.ops [mI 34 9,qI 35 d195,mI 9 35])))))))) .skip)),65,[]⟩
theorem ok123 : compF prog 123 = some cf123:=by kernel_rfl
theorem ac123 : acB prog 123 = true:=by decide +kernel
def cf124 : CF:=⟨sO [d100,d101] (sO [mI 13 2,mI 14 1,qI 15 (.bint .sub z13 z14),mI 8 15] (sO [d247] (sO [mI 16 1,mI 17 8,qI 18 (.bint .quo z17 (cI 4)),qI 19 (.bint .mul z18 (cI 1)),qI 20 (.bint .add z16 z19),mI 10 20] (sO [mI 21 1,mI 22 8,qI 23 (.bint .quo z22 (cI 4)),qI 24 (.bint .mul z23 (cI 2)),qI 25 (.bint .add z21 z24),mI 11 25] (sO [mI 26 1,mI 27 8,qI 28 (.bint .quo z27 (cI 4)),qI 29 (.bint .mul z28 (cI 3)),qI 30 (.bint .add z26 z29),mI 12 30] (.seq (sO [mI 31 8,qI 32 (.bint .geq z31 (cI 8))] (.cond z32 (.seq (sO [mI 33 8,qI 34 (.bint .geq z33 (cI 50))] (.cond z34 (sO [mI 35 0,mI 36 10,qI 37 (.call 211 [z35,z36,z9]),mI 10 37] (sO [mI 38 0,mI 39 11,qI 40 (.call 211 [z38,z39,z9]),mI 11 40] (.ops [mI 41 0,mI 42 12,qI 43 (.call 211 [z41,z42,z9]),mI 12 43]))) .skip)) (.ops [mI 44 0,mI 45 10,mI 46 11,mI 47 12,qI 48 (.call 212 [z44,z45,z46,z47,z9]),mI 11 48])) .skip)) (sO [qI 49 (.load1 z9)] (.block 0 (sO [qI 52 (.bint .eql z49 (cI 0)),mI 51 52] (.cond z51 (sO [mI 53 11,mI 6 53,qI 7 d31] .ret) (sO [qI 55 (.bint .eql z49 (cI 12)),mI 54 55] (.cond z54 (sO [mI 56 11,mI 6 56,qI 7 d32] .ret) (sO [mI 50 11,mI 6 50,d101] .ret))))))))))))),57,[.tmp 6,.tmp 7]⟩
theorem ok124 : compF prog 124 = some cf124:=by kernel_rfl
theorem ac124 : acB prog 124 = true:=by decide +kernel
def cf125 : CF:=⟨sO [mI 8 1,mI 6 8] (sO [mI 9 2,qI 10 (.bint .sub z9 (cI 1)),mI 7 10] (.block 0 (.loop (.seq (sO [mI 11 6,mI 12 7,qI 13 (.bint .lss z11 z12)] d222) (.block 1 (sO [d19,mI 15 6,d16,mI 17 7,mI 18 0,mI 19 7,qI 20 (.iaddr 1 z18 z19),d158,mI 22 0,mI 23 6,qI 24 (.iaddr 1 z22 z23),d157,qI 26 (.iaddr 1 z14 z15),nI (.store 1 z26 z21),qI 27 (.iaddr 1 z16 z17),nI (.store 1 z27 z25)] (sO [mI 28 6,qI 29 (.bint .add z28 (cI 1)),mI 6 29] (.ops [mI 30 7,qI 31 (.bint .sub z30 (cI 1)),mI 7 31])))))))),32,[]⟩
theorem ok125 : compF prog 125 = some cf125:=by kernel_rfl
theorem ac125 : acB prog 125 = true:=by decide +kernel
def cf126 : CF:=⟨sO [d65] (sO [d20,qI 12 d191,mI 7 12] (.seq (sO [d104] (.block 0 (.loop (.seq (sO [mI 13 8,qI 14 (.bint .lss z13 (cI 5))] d218) (.seq (.block 1 (.seq (.block 2 (.loop (.seq (sO [mI 17 7,mI 18 2,qI 19 (.bint .lss z17 z18),mI 20 19,vI 21 20 d3,vI 22 20 (.mv z7),vI 23 20 (.iaddr 1 z21 z22),vI 24 20 (.load1 z23),vI 25 20 d3,vI 26 20 (.mv z7),vI 27 20 (.bint .sub z26 (cI 1)),vI 28 20 (.iaddr 1 z25 z27),vI 29 20 (.load1 z28),vI 30 20 (.call 127 [z24,z29]),vI 31 20 (.not z30),qI 32 (.pick z20 z31 bF)] (.cond z32 .skip d11)) (.block 3 (.ops [mI 33 7,qI 34 d181,mI 7 34]))))) (.seq (sO [mI 35 7,mI 36 2,qI 37 (.bint .eql z35 z36)] (.cond z37 d203 .skip)) (.seq (sO [mI 38 2,mI 39 1,qI 40 (.bint .sub z38 z39),qI 41 (.bint .lss z40 (cI 50))] (.cond z41 d202 .skip)) (sO [mI 42 0,mI 43 7,mI 44 0,mI 45 7,qI 46 (.bint .sub z45 (cI 1)),mI 47 0,mI 48 7,qI 49 (.bint .sub z48 (cI 1)),qI 50 (.iaddr 1 z47 z49),d152,mI 52 0,mI 53 7,qI 54 (.iaddr 1 z52 z53),qI 55 (.load1 z54),qI 56 (.iaddr 1 z42 z43),nI (.store 1 z56 z51),qI 57 (.iaddr 1 z44 z46),nI (.store 1 z57 z55)] (.seq (sO [mI 58 7,mI 59 1,qI 60 (.bint .sub z58 z59),qI 61 (.bint .geq z60 (cI 2))] (.cond z61 (sO [mI 62 7,qI 63 (.bint .sub z62 (cI 1)),mI 9 63] (.block 4 (.loop (.seq (sO [mI 64 9,qI 65 (.bint .geq z64 (cI 1))] (.cond z65 .skip d23)) (.seq (.block 5 (.seq (sO [mI 68 0,mI 69 9,qI 70 (.iaddr 1 z68 z69),qI 71 (.load1 z70),mI 72 0,mI 73 9,qI 74 (.bint .sub z73 (cI 1)),qI 75 (.iaddr 1 z72 z74),d159,qI 77 (.call 127 [z71,z76]),qI 78 (.not z77)] (.cond z78 d23 .skip)) (.ops [mI 79 0,mI 80 9,mI 81 0,mI 82 9,qI 83 (.bint .sub z82 (cI 1)),mI 84 0,mI 85 9,qI 86 (.bint .sub z85 (cI 1)),qI 87 (.iaddr 1 z84 z86),qI 88 (.load1 z87),mI 89 0,mI 90 9,qI 91 (.iaddr 1 z89 z90),qI 92 (.load1 z91),qI 93 (.iaddr 1 z79 z80),nI (.store 1 z93 z88),qI 94 (.iaddr 1 z81 z83),nI (.store 1 z94 z92)]))) (.ops [mI 66 9,qI 67 (.bint .sub z66 (cI 1)),mI 9 67])))))) .skip)) (sO [mI 95 2,mI 96 7,qI 97 (.bint .sub z95 z96),qI 98 (.bint .geq z97 (cI 2))] (.cond z98 (sO [mI 99 7,qI 100 (.bint .add z99 (cI 1)),mI 10 100] (.block 6 (.loop (.seq (sO [mI 101 10,mI 102 2,qI 103 (.bint .lss z101 z102)] (.cond z103 .skip (.exit 6))) (.seq (.block 7 (.seq (sO [mI 106 0,mI 107 10,qI 108 (.iaddr 1 z106 z107),qI 109 (.load1 z108),mI 110 0,mI 111 10,qI 112 (.bint .sub z111 (cI 1)),qI 113 (.iaddr 1 z110 z112),qI 114 (.load1 z113),qI 115 (.call 127 [z109,z114]),qI 116 (.not z115)] (.cond z116 (.exit 6) .skip)) (.ops [mI 117 0,mI 118 10,mI 119 0,mI 120 10,qI 121 (.bint .sub z120 (cI 1)),mI 122 0,mI 123 10,qI 124 (.bint .sub z123 (cI 1)),qI 125 (.iaddr 1 z122 z124),qI 126 (.load1 z125),mI 127 0,mI 128 10,qI 129 (.iaddr 1 z127 z128),qI 130 (.load1 z129),qI 131 (.iaddr 1 z117 z118),nI (.store 1 z131 z126),qI 132 (.iaddr 1 z119 z121),nI (.store 1 z132 z130)]))) (.ops [mI 104 10,qI 105 (.bint .add z104 (cI 1)),mI 10 105])))))) .skip)))))))) (.ops [mI 15 8,qI 16 d186,mI 8 16])))))) d202)),133,[.tmp 6]⟩
theorem ok126 : compF prog 126 = some cf126:=by kernel_rfl
theorem ac126 : acB prog 126 = true:=by decide +kernel
def cf127 : CF:=⟨sO [d64] (sO [d4,qI 6 (.call 213 [z5]),mI 7 6,vI 8 7 d5,vI 9 7 (.call 213 [z8]),vI 10 7 (.not z9),qI 11 (.pick z7 z10 bF),mI 12 11,uI 13 12 d3,uI 14 12 d5,uI 15 12 (.prim ⟨some 15,.binOp .lss 9 (.tmp 13) (.tmp 14) 9,4,"cmp.go:29",#[⟨8,.data⟩,⟨9,.data⟩,⟨7,.guard⟩],some (7,false)⟩),qI 16 (.pick z12 bT z15),mI 4 16] .ret),17,[.tmp 4]⟩
theorem ok127 : compF prog 127 = some cf127:=by kernel_rfl
theorem ac127 : acB prog 127 = true:=by decide +kernel
def cf128 : CF:=⟨sO [d104] (sO [d14,mI 12 1,d22,mI 14 3,d13,mI 16 3,qI 17 (.iaddr 1 z15 z16),d127,mI 19 0,d18,qI 21 (.iaddr 1 z19 z20),d128,qI 23 (.iaddr 1 z11 z12),nI (.store 1 z23 z18),qI 24 (.iaddr 1 z13 z14),nI (.store 1 z24 z22)] (sO [mI 25 1,qI 26 (.bint .add z25 (cI 1)),mI 27 2,qI 28 (.bint .sub z27 (cI 1)),mI 9 26,mI 10 28] (.seq (.block 0 (.loop (.block 1 (.seq (.block 2 (.loop (.seq (sO [mI 29 9,mI 30 10,qI 31 (.bint .leq z29 z30),mI 32 31,vI 33 32 d3,vI 34 32 d5,vI 35 32 (.iaddr 1 z33 z34),vI 36 32 (.load1 z35),vI 37 32 d3,vI 38 32 (.mv z9),vI 39 32 (.iaddr 1 z37 z38),vI 40 32 (.load1 z39),vI 41 32 (.call 127 [z36,z40]),vI 42 32 (.not z41),qI 43 (.pick z32 z42 bF)] (.cond z43 .skip d11)) (.block 3 (.ops [mI 44 9,qI 45 (.bint .add z44 (cI 1)),mI 9 45]))))) (.seq (.block 4 (.loop (.seq (sO [mI 46 9,mI 47 10,qI 48 (.bint .leq z46 z47),mI 49 48,vI 50 49 d3,vI 51 49 d5,vI 52 49 (.iaddr 1 z50 z51),vI 53 49 (.load1 z52),vI 54 49 d3,vI 55 49 (.mv z10),vI 56 49 (.iaddr 1 z54 z55),vI 57 49 (.load1 z56),vI 58 49 (.call 127 [z53,z57]),qI 59 (.pick z49 z58 bF)] (.cond z59 .skip d23)) (.block 5 (.ops [mI 60 10,qI 61 (.bint .sub z60 (cI 1)),mI 10 61]))))) (.seq (sO [mI 62 9,mI 63 10,qI 64 (.bint .gtr z62 z63)] (.cond z64 d10 .skip)) (sO [mI 65 0,mI 66 9,mI 67 0,mI 68 10,mI 69 0,mI 70 10,qI 71 (.iaddr 1 z69 z70),qI 72 (.load1 z71),mI 73 0,mI 74 9,qI 75 (.iaddr 1 z73 z74),d159,qI 77 (.iaddr 1 z65 z66),nI (.store 1 z77 z72),qI 78 (.iaddr 1 z67 z68),nI (.store 1 z78 z76)] (sO [mI 79 9,qI 80 (.bint .add z79 (cI 1)),mI 9 80] (.ops [mI 81 10,qI 82 (.bint .sub z81 (cI 1)),mI 10 82]))))))))) (sO [mI 83 9,mI 8 83] .ret)))),84,[.tmp 8]⟩
theorem ok128 : compF prog 128 = some cf128:=by kernel_rfl
theorem ac128 : acB prog 128 = true:=by decide +kernel
def cf129 : CF:=⟨sO [d104,qI 9 (.mv bF)] (sO [d21,mI 13 1,d19,mI 15 3,d16,mI 17 3,qI 18 (.iaddr 1 z16 z17),d135,mI 20 0,mI 21 1,qI 22 (.iaddr 1 z20 z21),d148,qI 24 (.iaddr 1 z12 z13),nI (.store 1 z24 z19),qI 25 (.iaddr 1 z14 z15),nI (.store 1 z25 z23)] (sO [mI 26 1,qI 27 d189,mI 28 2,qI 29 (.bint .sub z28 (cI 1)),mI 10 27,mI 11 29] (.seq (.block 0 (.loop (.seq (sO [mI 30 10,mI 31 11,qI 32 (.bint .leq z30 z31),mI 33 32,vI 34 33 d3,vI 35 33 (.mv z10),vI 36 33 (.iaddr 1 z34 z35),vI 37 33 (.load1 z36),vI 38 33 d3,vI 39 33 d5,vI 40 33 (.iaddr 1 z38 z39),vI 41 33 (.load1 z40),vI 42 33 (.call 127 [z37,z41]),qI 43 (.pick z33 z42 bF)] (.cond z43 .skip d10)) (.block 1 (.ops [mI 44 10,qI 45 (.bint .add z44 (cI 1)),mI 10 45]))))) (.seq (.block 2 (.loop (.seq (sO [mI 46 10,mI 47 11,qI 48 (.bint .leq z46 z47),mI 49 48,vI 50 49 d3,vI 51 49 (.mv z11),vI 52 49 (.iaddr 1 z50 z51),vI 53 49 (.load1 z52),vI 54 49 d3,vI 55 49 d5,vI 56 49 (.iaddr 1 z54 z55),vI 57 49 (.load1 z56),vI 58 49 (.call 127 [z53,z57]),vI 59 49 (.not z58),qI 60 (.pick z49 z59 bF)] (.cond z60 .skip d11)) (.block 3 (.ops [mI 61 11,qI 62 (.bint .sub z61 (cI 1)),mI 11 62]))))) (.seq (sO [mI 63 10,mI 64 11,qI 65 (.bint .gtr z63 z64)] (.cond z65 (sO [mI 66 0,mI 67 11,mI 68 0,mI 69 1,mI 70 0,mI 71 1,qI 72 (.iaddr 1 z70 z71),qI 73 d34,mI 74 0,mI 75 11,qI 76 (.iaddr 1 z74 z75),qI 77 (.load1 z76),qI 78 (.iaddr 1 z66 z67),nI (.store 1 z78 z73),qI 79 (.iaddr 1 z68 z69),nI (.store 1 z79 z77)] (sO [mI 80 11,mI 8 80,qI 9 (.mv bT)] .ret)) .skip)) (sO [mI 81 0,mI 82 10,mI 83 0,mI 84 11,mI 85 0,mI 86 11,qI 87 (.iaddr 1 z85 z86),qI 88 (.load1 z87),mI 89 0,mI 90 10,qI 91 (.iaddr 1 z89 z90),qI 92 (.load1 z91),qI 93 (.iaddr 1 z81 z82),nI (.store 1 z93 z88),qI 94 (.iaddr 1 z83 z84),nI (.store 1 z94 z92)] (sO [mI 95 10,qI 96 (.bint .add z95 (cI 1)),mI 10 96] (sO [mI 97 11,qI 98 (.bint .sub z97 (cI 1)),mI 11 98] (.seq (.block 4 (.loop (.block 5 (.seq (.block 6 (.loop (.seq (sO [mI 99 10,mI 100 11,qI 101 (.bint .leq z99 z100),mI 102 101,vI 103 102 d3,vI 104 102 (.mv z10),vI 105 102 (.iaddr 1 z103 z104),vI 106 102 (.load1 z105),vI 107 102 d3,vI 108 102 d5,vI 109 102 (.iaddr 1 z107 z108),vI 110 102 (.load1 z109),vI 111 102 (.call 127 [z106,z110]),qI 112 (.pick z102 z111 bF)] (.cond z112 .skip (.exit 6))) (.block 7 (.ops [mI 113 10,qI 114 (.bint .add z113 (cI 1)),mI 10 114]))))) (.seq (.block 8 (.loop (.seq (sO [mI 115 10,mI 116 11,qI 117 (.bint .leq z115 z116),mI 118 117,vI 119 118 d3,vI 120 118 (.mv z11),vI 121 118 (.iaddr 1 z119 z120),vI 122 118 (.load1 z121),vI 123 118 d3,vI 124 118 d5,vI 125 118 (.iaddr 1 z123 z124),vI 126 118 (.load1 z125),vI 127 118 (.call 127 [z122,z126]),vI 128 118 (.not z127),qI 129 (.pick z118 z128 bF)] (.cond z129 .skip (.exit 8))) (.block 9 (.ops [mI 130 11,qI 131 (.bint .sub z130 (cI 1)),mI 11 131]))))) (.seq (sO [mI 132 10,mI 133 11,qI 134 (.bint .gtr z132 z133)] (.cond z134 d23 .skip)) (sO [mI 135 0,mI 136 10,mI 137 0,mI 138 11,mI 139 0,mI 140 11,qI 141 (.iaddr 1 z139 z140),qI 142 (.load1 z141),mI 143 0,mI 144 10,qI 145 (.iaddr 1 z143 z144),qI 146 (.load1 z145),qI 147 (.iaddr 1 z135 z136),nI (.store 1 z147 z142),qI 148 (.iaddr 1 z137 z138),nI (.store 1 z148 z146)] (sO [mI 149 10,qI 150 (.bint .add z149 (cI 1)),mI 10 150] (.ops [mI 151 11,qI 152 (.bint .sub z151 (cI 1)),mI 11 152]))))))))) (sO [mI 153 0,mI 154 11,mI 155 0,mI 156 1,mI 157 0,mI 158 1,qI 159 (.iaddr 1 z157 z158),qI 160 (.load1 z159),mI 161 0,mI 162 11,qI 163 (.iaddr 1 z161 z162),qI 164 (.load1 z163),qI 165 (.iaddr 1 z153 z154),nI (.store 1 z165 z160),qI 166 (.iaddr 1 z155 z156),nI (.store 1 z166 z164)] (sO [mI 167 11,mI 8 167,qI 9 (.mv bF)] .ret))))))))))),168,[.tmp 8,.tmp 9]⟩
theorem ok129 : compF prog 129 = some cf129:=by kernel_rfl
theorem ac129 : acB prog 129 = true:=by decide +kernel
def cf130 : CF:=⟨sO [d102] (.seq (sO [d1,qI 4 (.bint .geq z3 (.const (.int .u32 65536)))] (.cond z4 (sO [d4,qI 6 (.shft .shr z5 (.const (.int .u64 16))),mI 0 6] (.ops [qI 2 (.mv (cI 16))])) .skip)) (.seq (sO [d2,qI 8 (.bint .geq z7 (.const (.int .u32 256)))] (.cond z8 (sO [d6,qI 10 (.shft .shr z9 (.const (.int .u64 8))),mI 0 10] (.ops [mI 11 2,qI 12 (.bint .add z11 (cI 8)),mI 2 12])) .skip)) (sO [mI 13 2,d19,qI 15 (.conv .u8 z14),qI 16 (.idxS (.const (.string ⟨#[0,1,2,2,3,3,3,3,4,4,4,4,4,4,4,4,5,5,5,5,5,5,5,5,5,5,5,5,5,5,5,5,6,6,6,6,6,6,6,6,6,6,6,6,6,6,6,6,6,6,6,6,6,6,6,6,6,6,6,6,6,6,6,6,7,7,7,7,7,7,7,7,7,7,7,7,7,7,7,7,7,7,7,7,7,7,7,7,7,7,7,7,7,7,7,7,7,7,7,7,7,7,7,7,7,7,7,7,7,7,7,7,7,7,7,7,7,7,7,7,7,7,7,7,7,7,7,7,8,8,8,8,8,8,8,8,8,8,8,8,8,8,8,8,8,8,8,8,8,8,8,8,8,8,8,8,8,8,8,8,8,8,8,8,8,8,8,8,8,8,8,8,8,8,8,8,8,8,8,8,8,8,8,8,8,8,8,8,8,8,8,8,8,8,8,8,8,8,8,8,8,8,8,8,8,8,8,8,8,8,8,8,8,8,8,8,8,8,8,8,8,8,8,8,8,8,8,8,8,8,8,8,8,8,8,8,8,8,8,8,8,8,8,8,8,8,8,8,8,8,8,8,8,8,8,8]⟩)) z15),qI 17 (.conv .i64 z16),qI 18 (.bint .add z13 z17),mI 2 18] .ret))),19,[.tmp 2]⟩
theorem ok130 : compF prog 130 = some cf130:=by kernel_rfl
theorem ac130 : acB prog 130 = true:=by decide +kernel
def cf131 : CF:=⟨sO [d102] (.seq (sO [d1,qI 4 (.bint .geq z3 (.const (.int .u64 4294967296)))] (.cond z4 (sO [d4,qI 6 (.shft .shr z5 (.const (.int .u64 32))),mI 0 6] (.ops [qI 2 (.mv (cI 32))])) .skip)) (.seq (sO [d2,qI 8 (.bint .geq z7 (.const (.int .u64 65536)))] (.cond z8 (sO [d6,qI 10 (.shft .shr z9 (.const (.int .u64 16))),mI 0 10] (.ops [mI 11 2,qI 12 (.bint .add z11 (cI 16)),mI 2 12])) .skip)) (.seq (sO [d22,qI 14 (.bint .geq z13 (.const (.int .u64 256)))] (.cond z14 (sO [d13,qI 16 (.shft .shr z15 (.const (.int .u64 8))),mI 0 16] (.ops [mI 17 2,qI 18 (.bint .add z17 (cI 8)),mI 2 18])) .skip)) (sO [mI 19 2,mI 20 0,qI 21 (.conv .u8 z20),qI 22 (.idxS (.const (.string ⟨#[0,1,2,2,3,3,3,3,4,4,4,4,4,4,4,4,5,5,5,5,5,5,5,5,5,5,5,5,5,5,5,5,6,6,6,6,6,6,6,6,6,6,6,6,6,6,6,6,6,6,6,6,6,6,6,6,6,6,6,6,6,6,6,6,7,7,7,7,7,7,7,7,7,7,7,7,7,7,7,7,7,7,7,7,7,7,7,7,7,7,7,7,7,7,7,7,7,7,7,7,7,7,7,7,7,7,7,7,7,7,7,7,7,7,7,7,7,7,7,7,7,7,7,7,7,7,7,7,8,8,8,8,8,8,8,8,8,8,8,8,8,8,8,8,8,8,8,8,8,8,8,8,8,8,8,8,8,8,8,8,8,8,8,8,8,8,8,8,8,8,8,8,8,8,8,8,8,8,8,8,8,8,8,8,8,8,8,8,8,8,8,8,8,8,8,8,8,8,8,8,8,8,8,8,8,8,8,8,8,8,8,8,8,8,8,8,8,8,8,8,8,8,8,8,8,8,8,8,8,8,8,8,8,8,8,8,8,8,8,8,8,8,8,8,8,8,8,8,8,8,8,8,8,8,8,8]⟩)) z21),qI 23 (.conv .i64 z22),qI 24 (.bint .add z19 z23),mI 2 24] .ret)))),25,[.tmp 2]⟩
theorem ok131 : compF prog 131 = some cf131:=by kernel_rfl
theorem ac131 : acB prog 131 = true:=by decide +kernel
def cf132 : CF:=⟨sO [qI 2 (.mv (.const .nilFunc))] (.seq (sO [mI 4 0,qI 5 (.call 24 [z4,.const (.string ⟨#[110,111,116]⟩)])] (.cond z5 (sO [mI 6 0,qI 7 (.call 132 [z6]),qI 3 (.alloc [.sc .nilf]),nI (.store 1 z3 z7)] (sO [qI 8 (.mkf (.func 214) [] [z3]),mI 2 8] .ret)) .skip)) (sO [mI 9 0,qI 10 (.call 215 [z9]),mI 2 10] .ret)),11,[.tmp 2]⟩
theorem ok132 : compF prog 132 = some cf132:=by kernel_rfl
theorem ac132 : acB prog 132 = true:=by decide +kernel
def cf133 : CF:=⟨sO [qI 6 (.mv (cI 0))] (sO [mI 7 1,qI 8 (.bint .neq z7 (cI 0)),mI 9 8,vI 10 9 (.mv z2),vI 11 9 (.bint .neq z10 (cI 0)),qI 12 (.pick z9 z11 bF),qI 13 (.call 66 [z12]),mI 6 13] .ret),14,[.tmp 6]⟩
theorem ok133 : compF prog 133 = some cf133:=by kernel_rfl
theorem ac133 : acB prog 133 = true:=by decide +kernel
def cf134 : CF:=⟨sO [qI 5 (.mv (cI 0))] (sO [qI 8 (.load1 z1),mI 9 0,qI 10 (.callv z8 [z9]),mI 6 10] (sO [qI 11 (.load1 z2),mI 12 0,qI 13 (.callv z11 [z12]),mI 7 13] (.seq (sO [mI 14 0,qI 15 (.nilc z14),qI 16 (.faddr 14 z15),qI 17 (.load1 z16),qI 18 (.bint .neq z17 (cI 0))] (.cond z18 (sO [qI 5 (.mv (cI 0))] .ret) .skip)) (sO [mI 19 0,qI 20 (.load1 z3),mI 21 0,mI 22 6,mI 23 7,qI 24 (.callv z20 [z21,z22,z23]),qI 25 (.call 135 [z19,z24]),mI 5 25] .ret)))),26,[.tmp 5]⟩
theorem ok134 : compF prog 134 = some cf134:=by kernel_rfl
theorem ac134 : acB prog 134 = true:=by decide +kernel
def cf135 : CF:=⟨sO [qI 4 (.mv (cI 0))] (.seq (sO [mI 5 1,qI 6 (.bint .lss z5 (cI (-1099511627776))),mI 7 6,uI 8 7 (.mv z1),uI 9 7 (.bint .gtr z8 (cI 1099511627776)),qI 10 (.pick z7 bT z9)] (.cond z10 (sO [mI 11 0,qI 12 (.call 104 [z11,cI 14])] (sO [qI 4 (.mv (cI 0))] .ret)) .skip)) (sO [mI 13 1,mI 4 13] .ret)),14,[.tmp 4]⟩
theorem ok135 : compF prog 135 = some cf135:=by kernel_rfl
theorem ac135 : acB prog 135 = true:=by decide +kernel
def cf136 : CF:=⟨d320,19,[.tmp 4]⟩
theorem ok136 : compF prog 136 = some cf136:=by kernel_rfl
theorem ac136 : acB prog 136 = true:=by decide +kernel
def cf140 : CF:=⟨sO [d277] (sO [d1,d77,qI 5 (.faddr 13 z4),d89,d2,qI 8 (.nilc z7),qI 9 (.faddr 13 z8),d98,d81,qI 12 (.bint .sub z11 (cI 1)),qI 13 (.iaddr 2 z6 z12),qI 14 (.loadN 2 z13),nI (.store 2 z2 z14)] .ret),15,[.cellN 2 2]⟩
theorem ok140 : compF prog 140 = some cf140:=by kernel_rfl
theorem ac140 : acB prog 140 = true:=by decide +kernel
def cf141 : CF:=⟨sO [qI 6 (.mv (cI 0))] (sO [mI 8 0,qI 9 (.call 15 [z8]),qI 7 (.alloc [.sc (.int .i64 0),.sc (.str ⟨#[]⟩),.sc (.int .i64 0),.sc (.str ⟨#[]⟩),.sc (.int .i64 0),.sc (.int .i64 0),.sc (.bool false)]),nI (.store 7 z7 z9)] (.seq (.block 0 (sO [qI 20 (.faddr 0 z7),qI 21 (.load1 z20),qI 22 (.bint .neq z21 (cI 2)),mI 19 22] (.cond z19 (.ops [mI 23 0,qI 24 (.call 34 [z23,cI 13])]) (sO [qI 26 (.faddr 2 z7),qI 27 (.load1 z26),mI 28 1,qI 29 (.bint .lss z27 z28),mI 30 29,uI 31 30 (.faddr 2 z7),uI 32 30 (.load1 z31),uI 33 30 (.mv z2),uI 34 30 (.bint .gtr z32 z33),qI 35 (.pick z30 bT z34),mI 25 35] (.cond z25 (.ops [mI 36 0,qI 37 (.call 34 [z36,cI 2])]) (sO [mI 10 0,qI 11 (.nilc z10),qI 12 (.faddr 1 z11),qI 13 (.load1 z12),qI 14 (.bint .add z13 (cI 1)),qI 15 (.nilc z10),qI 16 (.faddr 1 z15),nI (.store 1 z16 z14)] (sO [qI 17 (.faddr 2 z7),qI 18 (.load1 z17),mI 6 18] .ret))))))) (sO [qI 6 (.mv (cI 0))] .ret))),38,[.tmp 6]⟩
theorem ok141 : compF prog 141 = some cf141:=by kernel_rfl
theorem ac141 : acB prog 141 = true:=by decide +kernel
def cf148 : CF:=⟨sO [qI 4 (.mv bF)] (sO [mI 5 0,mI 6 1,qI 7 (.call 254 [z5,z6]),qI 8 (.bint .geq z7 (cI 0)),mI 4 8] .ret),9,[.tmp 4]⟩
theorem ok148 : compF prog 148 = some cf148:=by kernel_rfl
theorem ac148 : acB prog 148 = true:=by decide +kernel
def cf149 : CF:=⟨sO [qI 3 (.mv bF)] (sO [mI 4 0,qI 5 (.load1 z1),qI 6 (.lkup false [.str] (.sc (.bool false)) false z4 z5),mI 3 6] .ret),7,[.tmp 3]⟩
theorem ok149 : compF prog 149 = some cf149:=by kernel_rfl
theorem ac149 : acB prog 149 = true:=by decide +kernel
def cf150 : CF:=⟨d322,26,[.tmp 4]⟩
theorem ok150 : compF prog 150 = some cf150:=by kernel_rfl
theorem ac150 : acB prog 150 = true:=by decide +kernel
def cf151 : CF:=⟨d323,32,[.tmp 6]⟩
theorem ok151 : compF prog 151 = some cf151:=by kernel_rfl
theorem ac151 : acB prog 151 = true:=by decide +kernel
def cf152 : CF:=⟨sO [d71,d72,d64] (sO [d118,d89,d119,d88,qI 9 (.call 255 [z6,z8,.func 256]),d12,vI 11 10 d47,d182,vI 13 10 d48,d183,vI 15 10 (.call 257 [z12,z14]),d209,mI 4 16] .ret),17,[.tmp 4]⟩
theorem ok152 : compF prog 152 = some cf152:=by kernel_rfl
theorem ac152 : acB prog 152 = true:=by decide +kernel
def cf153 : CF:=⟨sO [qI 5 (.box z2)] (sO [d9] (.cond z6 (.ops [d2,mI 8 0,d80,qI 10 (.faddr 7 z9),d134,d21,d110,qI 14 (.faddr 6 z13),d131,qI 16 d40,qI 17 (.build [.sc (.int .i64 0),.sc (.int .i64 0),.sc (.int .i64 0)] [(0,(1,z15)),(1,(2,z16))]),qI 18 (.bslice 1 3 [.sc (.int .i64 0),.sc (.int .i64 0),.sc (.int .i64 0)] [(0,(3,z17))]),qI 19 (.app 3 24 z11 z18),qI 20 (.nilc z7),qI 21 (.faddr 7 z20),nI (.store 1 z21 z19)]) .skip)),22,[]⟩
theorem ok153 : compF prog 153 = some cf153:=by kernel_rfl
theorem ac153 : acB prog 153 = true:=by decide +kernel
def cf154 : CF:=⟨sO [d66] (sO [qI 3 (.mv (.func 258))] (sO [d7,qI 5 (.lenS z4),qI 6 (.bint .leq z5 (cI 256)),mI 7 6,vI 8 7 d3,vI 9 7 (.bytes z8),vI 10 7 (.mv z3),vI 11 7 (.call 259 [z9,z10]),vI 12 7 (.not z11),qI 13 (.pick z7 z12 bF),mI 2 13] .ret)),14,[.tmp 2]⟩
theorem ok154 : compF prog 154 = some cf154:=by kernel_rfl
theorem ac154 : acB prog 154 = true:=by decide +kernel
def cf155 : CF:=⟨sO [d65] (sO [d2,mI 8 1,qI 9 (.bint .geq z7 z8),d12,vI 11 10 d3,vI 12 10 d8,vI 13 10 (.bint .leq z11 z12),qI 14 (.pick z10 z13 bF),mI 6 14] .ret),15,[.tmp 6]⟩
theorem ok155 : compF prog 155 = some cf155:=by kernel_rfl
theorem ac155 : acB prog 155 = true:=by decide +kernel
def cf156 : CF:=⟨sO [d70,d102] (.seq (sO [d124,d93,qI 5 (.bint .lss z4 (cI (-77))),mI 6 5,uI 7 6 d45,uI 8 6 (.load1 z7),uI 9 6 (.bint .gtr z8 (cI 77)),qI 10 (.pick z6 bT z9),d25,uI 12 11 d52,d198,uI 14 11 (.bint .lss z13 (cI (-140))),qI 15 (.pick z11 bT z14),mI 16 15,d199,d187,uI 19 16 (.bint .gtr z18 (cI 140)),d216] (.cond z20 d231 .skip)) d232),21,[.tmp 2]⟩
theorem ok156 : compF prog 156 = some cf156:=by kernel_rfl
theorem ac156 : acB prog 156 = true:=by decide +kernel
def cf157 : CF:=⟨sO [d70,d258] (sO [qI 3 (.alloc [.sc .nils])] (.seq (sO [qI 6 (.call 260 [z1])] (.block 0 (.range z6 #[7,8] (.region 3 #[⟨some 5,.assign (.tmp 8),351,"score.go:118",#[],none⟩] false) (.block 1 (.region 4 #[⟨some 9,.load 33 (.tmp 3),33,"score.go:119",#[],none⟩,⟨some 10,.move (.tmp 5),351,"score.go:119",#[],none⟩,⟨some 11,.nilCheck (.tmp 10),0,"score.go:119",#[⟨1,.data⟩],none⟩,⟨some 12,.load 74 (.tmp 11),74,"score.go:119",#[⟨2,.data⟩],none⟩,⟨some 13,.buildSlice 33 1 #[(0,.tmp 12)],33,"score.go:119",#[⟨3,.data⟩],none⟩,⟨some 14,.call ⟨.builtin .append,#[.tmp 9,.tmp 13],#[33,33]⟩,33,"score.go:119",#[⟨0,.data⟩,⟨4,.data⟩],none⟩,⟨none,.store 33 (.tmp 3) (.tmp 14),0,"score.go:119",#[⟨5,.data⟩,⟨5,.chain⟩,⟨0,.phase⟩,⟨1,.phase⟩,⟨2,.phase⟩,⟨3,.phase⟩,⟨4,.phase⟩,⟨5,.phase⟩],none⟩] true)) (.ops [mI 5 8]) (.block 1 (.ops [qI 9 (.load1 z3),mI 10 5,qI 11 (.nilc z10),qI 12 (.loadN 2 z11),qI 13 (.bslice 1 2 [.sc (.int .i64 0),.sc (.int .i64 0)] [(0,(2,z12))]),qI 14 (.app 2 16 z9 z13),nI (.store 1 z3 z14)]))))) (sO [qI 15 d27,mI 2 15] .ret))),16,[.tmp 2]⟩
theorem ok157 : compF prog 157 = some cf157:=by kernel_rfl
theorem ac157 : acB prog 157 = true:=by decide +kernel
def cf158 : CF:=⟨sO [d70,d66] (sO [d124,d93,qI 5 (.call 155 [z4,cI 0,cI 99]),mI 6 5,vI 7 6 d52,vI 8 6 (.load1 z7),vI 9 6 (.call 155 [z8,cI 1,cI 1073741824]),qI 10 (.pick z6 z9 bF),mI 2 10] .ret),11,[.tmp 2]⟩
theorem ok158 : compF prog 158 = some cf158:=by kernel_rfl
theorem ac158 : acB prog 158 = true:=by decide +kernel
def cf159 : CF:=⟨sO [d71,d103] (.seq (sO [qI 7 (.faddr 5 z2),d88,qI 9 (.len z8),qI 10 d29] (.block 0 (.loop (sO [qI 11 (.bint .lss z10 z9)] (.seq (.cond z11 .skip d10) (.seq (.block 1 (sO [qI 12 (.iaddr 2 z8 z10),qI 13 (.loadN 2 z12),qI 6 d270,nI (.store 2 z6 z13)] (sO [qI 14 (.faddr 0 z6),d131,mI 16 1,qI 17 (.bint .eql z15 z16)] (.cond z17 (sO [qI 18 (.faddr 1 z6),d135,mI 4 19] .ret) .skip)))) (.ops [qI 20 (.bint .add z10 (cI 1)),mI 10 20]))))))) d236),21,[.tmp 4]⟩
theorem ok159 : compF prog 159 = some cf159:=by kernel_rfl
theorem ac159 : acB prog 159 = true:=by decide +kernel
def cf160 : CF:=⟨sO [d70,d102] (sO [d105] (.seq (sO [qI 6 d35,d85,d74,qI 9 d29] (.block 0 (.loop (sO [qI 10 (.bint .lss z9 z8)] (.seq (.cond z10 .skip d10) (.seq (.block 1 (sO [qI 11 (.iaddr 6 z7 z9),d171,d289,nI (.store 6 z5 z12)] (.ops [mI 13 3,qI 14 (.faddr 5 z5),d131,d82,qI 17 (.bint .add z13 z16),mI 3 17]))) (.ops [qI 18 (.bint .add z9 (cI 1)),mI 9 18]))))))) (sO [mI 19 3,mI 2 19] .ret))),20,[.tmp 2]⟩
theorem ok160 : compF prog 160 = some cf160:=by kernel_rfl
theorem ac160 : acB prog 160 = true:=by decide +kernel
def cf161 : CF:=⟨sO [d0,d78,qI 8 (.faddr 0 z7),qI 9 (.faddr 3 z8),d98,d81,d155] (.block 0 (.loop (sO [d230] (.seq d222 (.seq (.block 1 (sO [mI 14 12,qI 15 (.iaddr 22 z10 z12),qI 16 (.loadN 22 z15),d319,mI 4 14,nI (.store 22 z5 z16)] (.ops [mI 17 0,mI 18 1,mI 19 4,qI 20 (.loadN 22 z5),qI 22 d50,d167,⟨some 21,none,.callv z18 [z19,z20],[.loadN 2 z22]⟩,qI 24 (.call 153 [z17,z21,z23])]))) (.ops [qI 25 d197,mI 12 25])))))),26,[]⟩
theorem ok161 : compF prog 161 = some cf161:=by kernel_rfl
theorem ac161 : acB prog 161 = true:=by decide +kernel
def cf162 : CF:=⟨sO [d75,d67] (sO [qI 12 (.faddr 21 z4),d146,d87,qI 15 d28,qI 16 (.bint .neq z14 z15),mI 6 16] (.seq (sO [qI 17 (.faddr 21 z4),d127,d96,d160] (.block 0 (.loop (sO [qI 21 (.bint .lss z20 z19)] (.seq (.cond z21 .skip d10) (.seq (.block 1 (sO [qI 22 (.iaddr 2 z18 z20),d167,d251,nI (.store 2 z8 z23)] (sO [qI 24 d54,d157,mI 9 25] (sO [mI 26 6,mI 27 26,uI 28 27 (.mv z9),uI 29 27 (.len z28),uI 30 27 (.bint .eql z29 (cI 0)),qI 31 (.pick z27 bT z30),mI 32 31,uI 33 32 (.mv z9),uI 34 32 (.iaddr 2 z33 (cI 0)),uI 35 32 (.faddr 0 z34),uI 36 32 (.load1 z35),uI 37 32 (.len z36),uI 38 32 (.bint .eql z37 (cI 0)),qI 39 (.pick z32 bT z38),mI 40 39,uI 41 40 (.mv z9),uI 42 40 (.mv z9),uI 43 40 (.len z42),uI 44 40 (.bint .sub z43 (cI 1)),uI 45 40 (.iaddr 2 z41 z44),uI 46 40 (.faddr 0 z45),uI 47 40 (.load1 z46),uI 48 40 (.len z47),uI 49 40 (.bint .eql z48 (cI 0)),qI 50 (.pick z40 bT z49),mI 6 50] (sO [mI 51 9,qI 52 (.len z51),qI 53 d29] (.block 2 (.loop (sO [qI 54 (.bint .lss z53 z52)] (.seq (.cond z54 .skip d11) (.seq (.block 3 (sO [qI 55 (.iaddr 2 z51 z53),qI 56 (.loadN 2 z55),qI 11 d238,nI (.store 2 z11 z56)] (.ops [mI 57 6,mI 58 57,uI 59 58 d63,uI 60 58 (.load1 z59),uI 61 58 (.len z60),uI 62 58 (.bint .eql z61 (cI 0)),uI 63 58 (.mv z62),vI 64 63 (.faddr 1 z11),vI 65 63 d33,vI 66 63 (.len z65),vI 67 63 (.bint .gtr z66 (cI 0)),uI 68 58 (.pick z63 z67 bF),qI 69 (.pick z58 bT z68),mI 6 69]))) (.ops [qI 70 (.bint .add z53 (cI 1)),mI 53 70]))))))))))) (.ops [qI 71 d190,mI 20 71]))))))) (sO [mI 72 6,mI 5 72] .ret))),73,[.tmp 5]⟩
theorem ok162 : compF prog 162 = some cf162:=by kernel_rfl
theorem ac162 : acB prog 162 = true:=by decide +kernel
def cf163 : CF:=⟨sO [d102] (sO [d0,qI 7 (.call 261 [z6]),mI 5 7,qI 8 (.ext z5 0),qI 9 (.ext z5 1),qI 3 d297,nI (.store 7 z3 z8),mI 4 9] (sO [mI 10 4,mI 2 10] .ret)),11,[.tmp 2]⟩
theorem ok163 : compF prog 163 = some cf163:=by kernel_rfl
theorem ac163 : acB prog 163 = true:=by decide +kernel
def cf164 : CF:=⟨sO [d72,d64] (sO [qI 13 (.loadN 22 z3),qI 14 (.call 165 [z13]),mI 12 14,qI 15 (.ext z12 0),qI 16 (.ext z12 1),d15,mI 6 16] (sO [qI 7 (.mv bF)] (.seq (sO [qI 17 (.faddr 21 z3),d127,d96,d160] (.block 0 (.loop (sO [qI 21 (.bint .lss z20 z19)] (.seq (.cond z21 .skip d10) (.seq (.block 1 (sO [qI 22 (.iaddr 2 z18 z20),d167,d252,nI (.store 2 z9 z23)] (sO [qI 24 d51,d157,qI 26 (.len z25),qI 27 d29] (.block 2 (.loop (sO [qI 28 (.bint .lss z27 z26)] (.seq (.cond z28 .skip d11) (.seq (.block 3 (sO [mI 29 27,qI 30 (.iaddr 2 z25 z27),qI 31 (.loadN 2 z30),qI 11 d270,mI 10 29,nI (.store 2 z11 z31)] (.ops [mI 32 7,mI 33 32,uI 34 33 (.faddr 1 z11),uI 35 33 (.load1 z34),uI 36 33 (.call 163 [z35]),uI 37 33 (.bint .neq z36 (cI 0)),d215,mI 39 38,uI 40 39 d63,uI 41 39 (.load1 z40),uI 42 39 (.mv z5),uI 43 39 (.bint .sub z42 (cI 1)),d253,uI 45 39 (.not z44),qI 46 (.pick z39 bT z45),mI 47 46,uI 48 47 (.mv z10),uI 49 47 (.bint .gtr z48 (cI 0)),uI 50 47 (.mv z49),vI 51 50 d63,vI 52 50 (.load1 z51),vI 53 50 d51,vI 54 50 (.load1 z53),vI 55 50 (.mv z10),vI 56 50 (.bint .sub z55 (cI 1)),vI 57 50 (.iaddr 2 z54 z56),vI 58 50 (.faddr 0 z57),vI 59 50 (.load1 z58),vI 60 50 (.bint .leq z52 z59),uI 61 47 (.pick z50 z60 bF),qI 62 (.pick z47 bT z61),mI 7 62]))) (.ops [qI 63 (.bint .add z27 (cI 1)),mI 27 63]))))))))) (.ops [qI 64 d190,mI 20 64]))))))) (sO [mI 65 7,mI 66 65,vI 67 66 (.mv z6),vI 68 66 (.bint .eql z67 (cI 0)),qI 69 (.pick z66 z68 bF),mI 4 69] .ret)))),70,[.tmp 4]⟩
theorem ok164 : compF prog 164 = some cf164:=by kernel_rfl
theorem ac164 : acB prog 164 = true:=by decide +kernel
def cf165 : CF:=⟨sO [d70,d102,d105] (sO [qI 7 d35,qI 8 (.loadN 8 z7),qI 9 (.call 262 [z8]),mI 6 9,qI 10 (.ext z6 0),qI 11 (.ext z6 1),mI 4 10,mI 5 11] (.seq (.block 0 (sO [mI 13 5,qI 14 (.bint .neq z13 (cI 0)),mI 12 14] (.cond z12 (sO [mI 15 5,d102,mI 3 15] .ret) (sO [qI 17 d59,d127,qI 19 (.bint .lss z18 (cI 0)),mI 16 19] (.cond z16 (sO [d102,qI 3 d32] .ret) (sO [qI 21 d59,d128,qI 23 (.bint .gtr z22 (cI 0)),mI 20 23] (.cond z20 (.ops [qI 24 d59,d157,mI 4 25]) .skip))))))) (.seq (.block 1 (sO [mI 27 4,qI 28 (.bint .rem z27 (cI 7560)),qI 29 (.bint .neq z28 (cI 0)),mI 26 29] (.cond z26 (sO [d102,qI 3 (.mv (cI 16))] .ret) (sO [mI 31 4,qI 32 (.bint .gtr z31 (cI 15482880)),mI 30 32] (.cond z30 (sO [d102,qI 3 (.mv (cI 5))] .ret) .skip))))) (sO [mI 33 4,mI 2 33,d105] .ret)))),34,[.tmp 2,.tmp 3]⟩
theorem ok165 : compF prog 165 = some cf165:=by kernel_rfl
theorem ac165 : acB prog 165 = true:=by decide +kernel
def cf166 : CF:=⟨sO [d75,d67] (sO [qI 12 (.loadN 22 z4),qI 13 (.call 165 [z12]),mI 11 13,qI 14 (.ext z11 0),qI 15 (.ext z11 1),mI 6 14,mI 7 15] (sO [mI 16 7,d243,mI 18 17,uI 19 18 (.faddr 11 z4),uI 20 18 (.load1 z19),uI 21 18 (.call 155 [z20,cI (-7),cI 7]),uI 22 18 (.not z21),qI 23 (.pick z18 bT z22),mI 8 23] (.seq (sO [qI 24 d28,qI 25 (.nilc z24),qI 26 (.faddr 0 z25),qI 27 (.faddr 2 z26),d132,qI 29 (.len z28),qI 30 d29] (.block 0 (.loop (sO [qI 31 (.bint .lss z30 z29)] (.seq (.cond z31 .skip d10) (.seq (.block 1 (sO [qI 32 (.iaddr 6 z28 z30),qI 33 (.loadN 6 z32),qI 10 d288,nI (.store 6 z10 z33)] (sO [qI 34 d28,qI 35 (.nilc z34),qI 36 (.faddr 0 z35),qI 37 (.faddr 1 z36),d133,mI 39 38,vI 40 39 (.mv z8),vI 41 39 (.not z40),qI 42 (.pick z39 z41 bF)] (.cond z42 (sO [qI 44 (.faddr 11 z4),qI 45 (.load1 z44),qI 46 (.faddr 3 z10),qI 47 (.loadN 2 z46),qI 48 (.call 167 [z45,z47]),mI 43 48,qI 49 (.ext z43 0),qI 50 (.ext z43 1),mI 7 50] (.ops [mI 51 7,qI 52 (.bint .neq z51 (cI 0)),mI 8 52])) .skip)))) (.ops [qI 53 (.bint .add z30 (cI 1)),mI 30 53]))))))) (sO [mI 54 8,mI 5 54] .ret)))),55,[.tmp 5]⟩
theorem ok166 : compF prog 166 = some cf166:=by kernel_rfl
theorem ac166 : acB prog 166 = true:=by decide +kernel
def cf168 : CF:=⟨sO [d72] (.ops [d7,qI 5 (.mkf (.func 264) [] [z3]),qI 6 (.call 161 [z4,z5])]),7,[]⟩
theorem ok168 : compF prog 168 = some cf168:=by kernel_rfl
theorem ac168 : acB prog 168 = true:=by decide +kernel
def cf169 : CF:=⟨sO [d66] (sO [d1,qI 4 (.bint .eql z3 (cI 11)),mI 5 4,uI 6 5 d3,uI 7 5 (.bint .eql z6 (cI 20)),qI 8 (.pick z5 bT z7),mI 2 8] .ret),9,[.tmp 2]⟩
theorem ok169 : compF prog 169 = some cf169:=by kernel_rfl
theorem ac169 : acB prog 169 = true:=by decide +kernel
def cf170 : CF:=⟨sO [d66] (sO [d1,qI 4 (.bint .neq z3 (cI 0)),mI 5 4,vI 6 5 d3,vI 7 5 (.call 169 [z6]),vI 8 5 (.not z7),qI 9 (.pick z5 z8 bF),mI 2 9] .ret),10,[.tmp 2]⟩
theorem ok170 : compF prog 170 = some cf170:=by kernel_rfl
theorem ac170 : acB prog 170 = true:=by decide +kernel
def cf171 : CF:=⟨sO [d21,d110,qI 14 (.faddr 0 z13),qI 15 (.faddr 3 z14),d126,qI 17 (.len z16),qI 18 d29] (.block 0 (.loop (sO [qI 19 (.bint .lss z18 z17)] (.seq d223 (.seq (.block 1 (sO [mI 20 18,qI 21 (.iaddr 22 z16 z18),qI 22 (.loadN 22 z21),d319,mI 4 20,nI (.store 22 z5 z22)] (sO [qI 23 (.faddr 21 z5),d129,qI 25 (.len z24),qI 26 d29] (.block 2 (.loop (sO [qI 27 (.bint .lss z26 z25)] (.seq (.cond z27 .skip d11) (.seq (.block 3 (sO [mI 28 26,qI 29 (.iaddr 2 z24 z26),qI 30 (.loadN 2 z29),qI 7 d238,mI 6 28,nI (.store 2 z7 z30)] (sO [qI 31 (.faddr 1 z7),qI 32 (.load1 z31),qI 33 (.len z32),qI 34 d29] (.block 4 (.loop (sO [qI 35 (.bint .lss z34 z33)] (.seq (.cond z35 .skip d23) (.seq (.block 5 (sO [mI 36 34,qI 37 (.iaddr 2 z32 z34),qI 38 (.loadN 2 z37),d252,mI 8 36,nI (.store 2 z9 z38)] (sO [qI 39 d51,d137,qI 41 (.len z40),qI 42 d29] (.block 6 (.loop (sO [qI 43 (.bint .lss z42 z41)] (.seq (.cond z43 .skip (.exit 6)) (.seq (.block 7 (sO [mI 44 42,qI 45 (.iaddr 13 z40 z42),qI 46 (.loadN 13 z45),qI 11 d308,mI 10 44,nI (.store 13 z11 z46)] (.ops [mI 47 0,mI 48 1,mI 49 6,mI 50 4,mI 51 8,mI 52 10,qI 53 (.build [.sc (.int .i64 0),.sc (.int .i64 0),.sc (.int .i64 0),.sc (.int .i64 0),.sc (.int .i64 0),.sc (.int .i64 0),.sc (.int .i64 0)] [(0,(1,cI 4)),(2,(1,z49)),(3,(1,z50)),(4,(1,z51)),(5,(1,z52))]),qI 54 (.loadN 13 z11),qI 56 d63,qI 57 (.loadN 2 z56),⟨some 55,none,.callv z48 [z53,z54],[.loadN 2 z56]⟩,qI 58 (.call 153 [z47,z55,z57])]))) (.ops [qI 59 (.bint .add z42 (cI 1)),mI 42 59]))))))))) (.ops [qI 60 d195,mI 34 60]))))))))) (.ops [qI 61 d189,mI 26 61]))))))))) (.ops [qI 62 (.bint .add z18 (cI 1)),mI 18 62])))))),63,[]⟩
theorem ok171 : compF prog 171 = some cf171:=by kernel_rfl
theorem ac171 : acB prog 171 = true:=by decide +kernel
def cf172 : CF:=⟨sO [d71,d72,d64] (sO [qI 5 (.loadN 13 z3),qI 6 (.call 173 [z5]),qI 7 (.bint .neq z6 (cI 0)),mI 4 7] .ret),8,[.tmp 4]⟩
theorem ok172 : compF prog 172 = some cf172:=by kernel_rfl
theorem ac172 : acB prog 172 = true:=by decide +kernel
def cf173 : CF:=⟨sO [d70,d102] (.seq (sO [qI 5 d45,qI 6 d50,d85,qI 9 d45,d166,d134,⟨some 8,none,.call 273 [z7,cI 99],[.load1 z10]⟩,qI 12 (.call 273 [z11,cI 1073741824]),qI 13 (.bslice 2 1 [.sc (.int .i64 0)] [(0,(1,z8)),(1,(1,z12))]),qI 14 (.call 272 [z13]),mI 3 14] (sO [mI 15 3,qI 16 (.bint .neq z15 (cI 0))] (.cond z16 (sO [mI 17 3,mI 2 17] .ret) .skip))) (.seq (sO [qI 18 d35,d135,qI 20 (.call 274 [z19]),qI 21 (.not z20)] (.cond z21 (sO [qI 2 (.mv (cI 11))] .ret) .skip)) (.seq (sO [qI 22 d61,qI 23 d61,⟨some 24,none,.call 276 [z23],[.loadN 13 z1]⟩,qI 25 (.call 275 [z22,z24]),qI 26 (.not z25)] (.cond z26 (sO [qI 2 (.mv (cI 3))] .ret) .skip)) (.seq (sO [qI 27 d35,d132,qI 29 (.bint .neq z28 (cI 3)),mI 30 29,vI 31 30 d36,vI 32 30 (.loadN 2 z31),vI 33 30 (.call 277 [z32]),vI 34 30 (.bint .neq z33 (cI 0)),qI 35 (.pick z30 z34 bF)] (.cond z35 d239 .skip)) (.seq (sO [qI 36 d35,d136,qI 38 (.bint .eql z37 (cI 1))] (.cond z38 (sO [qI 39 d37,d137,qI 42 (.faddr 6 z1),qI 43 (.load1 z42),qI 45 d59,d116,⟨some 41,none,.call 278 [z40],[.load1 z45,.load1 z42]⟩,⟨some 44,none,.call 279 [z43],[.load1 z45]⟩,qI 47 (.call 280 [z46]),qI 48 (.bslice 3 1 [.sc (.int .i64 0)] [(0,(1,z41)),(1,(1,z44)),(2,(1,z47))]),qI 49 (.call 272 [z48]),mI 4 49] (sO [mI 50 4,qI 51 (.bint .neq z50 (cI 0))] (.cond z51 (sO [mI 52 4,mI 2 52] .ret) .skip))) .skip)) (sO [qI 53 (.faddr 7 z1),d138,qI 56 (.faddr 8 z1),d139,qI 59 (.faddr 9 z1),d140,qI 62 (.faddr 11 z1),qI 63 (.load1 z62),qI 65 (.faddr 12 z1),d141,⟨some 55,none,.call 273 [z54,cI 31],[.load1 z65,.load1 z62,.load1 z59,.load1 z56]⟩,⟨some 58,none,.call 273 [z57,cI 4],[.load1 z65,.load1 z62,.load1 z59]⟩,⟨some 61,none,.call 273 [z60,cI 9],[.load1 z65,.load1 z62]⟩,⟨some 64,none,.call 273 [z63,cI 2],[.load1 z65]⟩,qI 67 (.call 273 [z66,cI 2]),qI 68 (.bslice 5 1 [.sc (.int .i64 0)] [(0,(1,z55)),(1,(1,z58)),(2,(1,z61)),(3,(1,z64)),(4,(1,z67))]),qI 69 (.call 272 [z68]),mI 2 69] .ret)))))),70,[.tmp 2]⟩
theorem ok173 : compF prog 173 = some cf173:=by kernel_rfl
theorem ac173 : acB prog 173 = true:=by decide +kernel
def cf174 : CF:=⟨sO [d76,d75,d67] (.seq (sO [qI 11 (.loadN 13 z4),qI 12 (.call 173 [z11]),qI 13 (.bint .neq z12 (cI 0))] (.cond z13 d207 .skip)) (sO [d249,nI (.store 1 z6 (cI 0))] (.seq (sO [qI 15 d28,d111,qI 17 (.faddr 0 z16),qI 18 (.loadN 6 z17),qI 19 d42,d123,qI 21 (.call 175 [z18,z20]),mI 14 21,qI 22 (.ext z14 0),qI 23 (.ext z14 1),qI 24 (.ext z14 2),mI 7 22,mI 8 23,mI 9 24] (sO [mI 25 9,qI 26 (.bint .eql z25 (cI 0))] (.cond z26 (.ops [qI 27 d28,qI 28 (.nilc z27),qI 29 (.faddr 0 z28),qI 30 (.faddr 2 z29),d115,mI 32 7,qI 33 (.iaddr 6 z31 z32),qI 34 (.faddr 3 z33),qI 35 (.faddr 1 z34),d161,nI (.store 1 z6 z36)]) .skip))) (.seq (sO [qI 37 d28,qI 38 (.nilc z37),qI 39 (.faddr 0 z38),qI 40 (.faddr 1 z39),d162] (.cond z41 (.ops [qI 42 (.load1 z6),qI 43 (.prim ⟨some 43,.unOp .neg 3 (.tmp 42),3,"check.go:225",#[⟨0,.data⟩],none⟩),nI (.store 1 z6 z43)]) .skip)) (sO [qI 44 (.mkf (.func 176) [] [z6]),qI 10 d163,nI (.store 1 z10 z44)] (sO [qI 45 (.faddr 5 z4),d116,qI 47 (.mkf (.func 179) [] [z10]),qI 48 (.call 178 [z46,z47]),mI 49 48,uI 50 49 (.faddr 6 z4),uI 51 49 (.load1 z50),uI 52 49 (.mkf (.func 181) [] [z10]),uI 53 49 (.call 180 [z51,z52]),qI 54 (.pick z49 bT z53),mI 5 54] .ret)))))),55,[.tmp 5]⟩
theorem ok174 : compF prog 174 = some cf174:=by kernel_rfl
theorem ac174 : acB prog 174 = true:=by decide +kernel
def cf175 : CF:=⟨sO [d71,d103,d107,d100] (.seq (sO [mI 9 1,d241] (.cond z10 d282 .skip)) (.seq (sO [qI 11 (.faddr 2 z2),d125,qI 13 (.len z12),qI 14 d29] (.block 0 (.loop (sO [qI 15 (.bint .lss z14 z13)] (.seq (.cond z15 .skip d10) (.seq (.block 1 (sO [mI 16 14,qI 17 (.iaddr 6 z12 z14),qI 18 (.loadN 6 z17),d291,mI 7 16,nI (.store 6 z8 z18)] (.seq (sO [mI 19 1,qI 20 (.faddr 5 z8),d158,d95,qI 23 (.bint .lss z19 z22)] (.cond z23 (sO [mI 24 7,mI 25 1,mI 4 24,mI 5 25,d100] .ret) .skip)) (.ops [mI 26 1,qI 27 (.faddr 5 z8),d132,qI 29 (.len z28),qI 30 (.bint .sub z26 z29),mI 1 30])))) d275)))))) d282)),32,[.tmp 4,.tmp 5,.tmp 6]⟩
theorem ok175 : compF prog 175 = some cf175:=by kernel_rfl
theorem ac175 : acB prog 175 = true:=by decide +kernel
def cf176 : CF:=⟨sO [d71,d68] (sO [qI 7 (.loadN 3 z2),qI 8 (.call 177 [z7]),mI 6 8,qI 9 (.ext z6 0),qI 10 (.ext z6 1),mI 4 9,mI 5 10] (sO [mI 11 4,qI 12 d26,qI 13 (.bint .add z11 z12),qI 14 (.call 155 [z13,cI 0,cI 127]),qI 15 (.not z14),mI 3 15] .ret)),16,[.tmp 3]⟩
theorem ok176 : compF prog 176 = some cf176:=by kernel_rfl
theorem ac176 : acB prog 176 = true:=by decide +kernel
def cf177 : CF:=⟨sO [d70,d102,d105] (.seq (sO [qI 5 (.loadN 3 z1),qI 6 (.call 249 [z5]),mI 4 6] d287) (sO [qI 10 (.loadN 3 z1),qI 11 (.call 281 [z10]),mI 2 11,d105] .ret)),12,[.tmp 2,.tmp 3]⟩
theorem ok177 : compF prog 177 = some cf177:=by kernel_rfl
theorem ac177 : acB prog 177 = true:=by decide +kernel
def cf178 : CF:=⟨sO [d64] (sO [d4,d9,qI 7 (.call 282 [z5,z6]),d234,mI 4 8] .ret),9,[.tmp 4]⟩
theorem ok178 : compF prog 178 = some cf178:=by kernel_rfl
theorem ac178 : acB prog 178 = true:=by decide +kernel
def cf179 : CF:=⟨d296,8,[.tmp 3]⟩
theorem ok179 : compF prog 179 = some cf179:=by kernel_rfl
theorem ac179 : acB prog 179 = true:=by decide +kernel
def cf180 : CF:=⟨sO [d64] (sO [d4,d9,qI 7 (.call 283 [z5,z6]),d234,mI 4 8] .ret),9,[.tmp 4]⟩
theorem ok180 : compF prog 180 = some cf180:=by kernel_rfl
theorem ac180 : acB prog 180 = true:=by decide +kernel
def cf181 : CF:=⟨d296,8,[.tmp 3]⟩
theorem ok181 : compF prog 181 = some cf181:=by kernel_rfl
theorem ac181 : acB prog 181 = true:=by decide +kernel
def cf182 : CF:=⟨sO [d76,d75,d67] (.seq (sO [qI 10 (.loadN 13 z4),qI 11 (.call 183 [z10]),qI 12 (.not z11)] (.cond z12 d207 .skip)) (sO [qI 14 d28,d106,qI 16 (.faddr 0 z15),qI 17 (.loadN 6 z16),qI 18 (.loadN 7 z3),d305,qI 19 (.call 184 [z17,z18]),mI 13 19,qI 20 (.ext z13 0),qI 21 (.ext z13 1),nI (.store 7 z6 z20),mI 7 21] (sO [qI 23 d28,qI 24 (.nilc z23),d172,d173,qI 27 (.loadN 7 z6),d309,qI 28 (.call 185 [z26,z27]),mI 22 28,qI 29 (.ext z22 0),qI 30 (.ext z22 1),nI (.store 13 z8 z29),mI 9 30] (sO [mI 31 7,qI 32 (.not z31),mI 33 32,uI 34 33 (.loadN 13 z4),uI 35 33 (.loadN 13 z8),uI 36 33 (.call 186 [z34,z35]),uI 37 33 (.not z36),d215,mI 5 38] .ret)))),39,[.tmp 5]⟩
theorem ok182 : compF prog 182 = some cf182:=by kernel_rfl
theorem ac182 : acB prog 182 = true:=by decide +kernel
def cf183 : CF:=⟨sO [d70,d66] (sO [qI 3 d35,d93,qI 5 (.bint .eql z4 (cI 1)),mI 6 5,vI 7 6 d37,vI 8 6 (.load1 z7),vI 9 6 (.call 178 [z8,.func 284]),qI 10 (.pick z6 z9 bF),mI 2 10] .ret),11,[.tmp 2]⟩
theorem ok183 : compF prog 183 = some cf183:=by kernel_rfl
theorem ac183 : acB prog 183 = true:=by decide +kernel
def cf184 : CF:=⟨sO [d71,d72,d307,d67] (.seq (sO [qI 6 d56,qI 7 (.loadN 7 z3),qI 8 (.call 285 [z6,z7]),qI 9 (.bint .neq z8 (cI 0))] (.cond z9 (sO [qI 10 d301,nI (.store 7 z4 z10),d67] .ret) .skip)) (.seq (sO [qI 11 d44,d125,qI 13 d197,qI 14 d56,qI 15 d43,d126,qI 17 d42,d127,qI 19 d55,d123,⟨some 21,none,.call 286 [z14,z16,z18,z20],[.load1 z11]⟩,d95,qI 23 (.bint .lss z13 z22)] (.cond z23 (sO [qI 24 d43,d157,qI 26 d42,d114,qI 28 d55,d164,qI 30 d44,d115,qI 32 (.bint .add z31 (cI 1)),qI 33 (.call 287 [z25,z27,z29,z32]),nI (.store 7 z4 z33),d69] .ret) .skip)) (.seq (sO [qI 34 d56,qI 35 d43,d161,qI 37 (.bint .add z36 (cI 1)),qI 38 d42,d149,qI 40 d55,d162,qI 42 (.call 286 [z34,z37,z39,z41]),qI 43 (.len z42),qI 44 (.bint .gtr z43 (cI 0))] (.cond z44 (sO [qI 45 d43,d116,qI 47 (.bint .add z46 (cI 1)),qI 48 d42,d117,qI 50 d55,d152,qI 52 (.call 287 [z47,z49,z51,cI 0]),nI (.store 7 z4 z52),d69] .ret) .skip)) (sO [qI 53 d301,nI (.store 7 z4 z53),d67] .ret)))),54,[.cellN 7 4,.tmp 5]⟩
theorem ok184 : compF prog 184 = some cf184:=by kernel_rfl
theorem ac184 : acB prog 184 = true:=by decide +kernel
def cf187 : CF:=⟨sO [qI 10 d269] (sO [qI 11 d299] (.seq (sO [mI 18 0,qI 19 (.nilc z18),qI 20 (.faddr 0 z19),qI 21 (.faddr 3 z20),d128,qI 23 (.len z22),qI 24 d29] (.block 0 (.loop (sO [qI 25 (.bint .lss z24 z23)] (.seq d221 (.seq (.block 1 (sO [mI 26 24,qI 27 (.iaddr 22 z22 z24),qI 28 (.loadN 22 z27),qI 13 d315,mI 12 26,nI (.store 22 z13 z28)] (.seq (sO [mI 29 1,qI 30 (.faddr 21 z13),d115,qI 32 (.len z31),qI 33 (.bint .geq z29 z32),mI 34 33,uI 35 34 d8,uI 36 34 (.faddr 21 z13),uI 37 34 (.load1 z36),uI 38 34 d5,uI 39 34 (.iaddr 2 z37 z38),uI 40 34 (.faddr 1 z39),uI 41 34 (.load1 z40),uI 42 34 (.len z41),uI 43 34 (.bint .geq z35 z42),qI 44 (.pick z34 bT z43)] (.cond z44 (.exit 1) .skip)) (sO [qI 45 (.faddr 21 z13),d116,mI 47 1,qI 48 (.iaddr 2 z46 z47),qI 49 (.faddr 1 z48),d142,mI 51 2,qI 52 (.iaddr 2 z50 z51),qI 53 (.faddr 0 z52),d138,qI 55 (.len z54),qI 56 d29] (.block 2 (.loop (sO [qI 57 (.bint .lss z56 z55)] (.seq (.cond z57 .skip d11) (.seq (.block 3 (sO [mI 58 56,qI 59 (.iaddr 13 z54 z56),qI 60 (.loadN 13 z59),qI 15 d308,mI 14 58,nI (.store 13 z15 z60)] (.seq (sO [qI 61 (.loadN 13 z15),mI 62 3,qI 63 (.call 290 [z61,z62])] (.cond z63 (.exit 3) .skip)) (sO [mI 64 1,mI 65 12,mI 66 2,mI 67 14,qI 68 (.build [.sc (.int .i64 0),.sc (.int .i64 0),.sc (.int .i64 0),.sc (.int .i64 0),.sc (.int .i64 0),.sc (.int .i64 0),.sc (.int .i64 0)] [(0,(1,cI 4)),(2,(1,z64)),(3,(1,z65)),(4,(1,z66)),(5,(1,z67))]),qI 69 (.faddr 10 z15),qI 70 (.load1 z69),mI 71 3,qI 72 (.iaddr 2 z70 z71),qI 73 (.loadN 2 z72),qI 16 d299,qI 17 d269,⟨none,none,.store 7 z16 z68,[.loadN 2 z72,.load1 z69]⟩,nI (.store 2 z17 z73)] (.seq (sO [qI 74 d62,qI 75 (.load1 z74),qI 76 (.bint .eql z75 (cI 1)),mI 77 76,vI 78 77 (.faddr 0 z17),vI 79 77 (.load1 z78),vI 80 77 (.bstr .eql z79 (.const (.string ⟨#[]⟩))),qI 81 (.pick z77 z80 bF)] (.cond z81 (.ops [mI 82 4,qI 83 (.loadN 7 z11),nI (.mpup true [.int,.int,.int,.int,.int,.int,.int] z82 z83 bT)]) .skip)) (.seq (sO [qI 84 (.faddr 0 z17),qI 85 (.load1 z84),qI 86 (.bstr .eql z85 (.const (.string ⟨#[]⟩))),mI 87 86,vI 88 87 (.faddr 1 z17),vI 89 87 (.load1 z88),vI 90 87 (.bint .eql z89 (cI 2)),qI 91 (.pick z87 z90 bF),mI 92 91,vI 93 92 d62,vI 94 92 (.load1 z93),vI 95 92 (.bint .neq z94 (cI 2)),qI 96 (.pick z92 z95 bF)] (.cond z96 (.ops [mI 97 4,qI 98 (.loadN 7 z16),nI (.mpup true [.int,.int,.int,.int,.int,.int,.int] z97 z98 bT)]) .skip)) (.ops [qI 99 (.loadN 2 z17),qI 100 (.loadN 7 z16),⟨none,none,.store 2 z10 z99,[.loadN 7 z16]⟩,nI (.store 7 z11 z100)]))))))) (.ops [qI 101 (.bint .add z56 (cI 1)),mI 56 101])))))))))) (.ops [qI 102 (.bint .add z24 (cI 1)),mI 24 102]))))))) (sO [qI 103 d62,qI 104 (.load1 z103),qI 105 (.bint .eql z104 (cI 1))] (.cond z105 (.ops [mI 106 4,qI 107 (.loadN 7 z11),nI (.mpup true [.int,.int,.int,.int,.int,.int,.int] z106 z107 bT)]) .skip)))),108,[]⟩
theorem ok187 : compF prog 187 = some cf187:=by kernel_rfl
theorem ac187 : acB prog 187 = true:=by decide +kernel
def cf188 : CF:=⟨sO [d76,d75,d67] (sO [qI 6 d28,qI 7 (.loadN 7 z3),qI 8 (.lkup true [.int,.int,.int,.int,.int,.int,.int] (.sc (.bool false)) false z6 z7),mI 5 8] .ret),9,[.tmp 5]⟩
theorem ok188 : compF prog 188 = some cf188:=by kernel_rfl
theorem ac188 : acB prog 188 = true:=by decide +kernel
def cf189 : CF:=⟨sO [d258,d261] (sO [d259] (sO [d262] (.seq (sO [d22,d108,d175,qI 16 (.faddr 4 z15),d156,d92,d145] (.block 0 (.loop (sO [d228] (.seq (.cond z20 .skip d10) (.seq (.block 1 (sO [qI 21 (.iaddr 7 z17 z19),qI 22 (.loadN 7 z21),d306,nI (.store 7 z7 z22)] (sO [mI 24 0,qI 25 (.faddr 3 z7),qI 26 (.loadN 2 z25),qI 27 (.call 291 [z24,z26]),mI 23 27,qI 28 (.ext z23 0),qI 29 (.ext z23 1),d286,nI (.store 4 z8 z28),mI 9 29] (sO [mI 31 0,qI 32 (.faddr 5 z7),qI 33 (.loadN 2 z32),qI 34 (.call 291 [z31,z33]),mI 30 34,qI 35 (.ext z30 0),qI 36 (.ext z30 1),qI 10 d284,nI (.store 4 z10 z35),mI 11 36] (sO [qI 37 (.faddr 2 z7),d133,qI 39 (.loadN 4 z8),qI 40 (.loadN 4 z10),qI 41 (.build [.sc (.int .i64 0),.sc (.int .i64 0),.sc (.int .i64 0),.sc (.int .i64 0),.sc (.int .i64 0),.sc (.int .i64 0),.sc (.int .i64 0),.sc (.int .i64 0),.sc (.int .i64 0)] [(0,(1,z38)),(1,(4,z39)),(5,(4,z40))]),qI 12 (.alloc [.sc (.int .i64 0),.sc (.int .i64 0),.sc (.int .i64 0),.sc (.int .i64 0),.sc (.int .i64 0),.sc (.int .i64 0),.sc (.int .i64 0),.sc (.int .i64 0),.sc (.int .i64 0)]),nI (.store 9 z12 z41)] (.ops [mI 42 4,qI 43 (.loadN 9 z12),qI 44 (.bslice 1 9 [.sc (.int .i64 0),.sc (.int .i64 0),.sc (.int .i64 0),.sc (.int .i64 0),.sc (.int .i64 0),.sc (.int .i64 0),.sc (.int .i64 0),.sc (.int .i64 0),.sc (.int .i64 0)] [(0,(9,z43))]),qI 45 (.app 9 72 z42 z44),mI 46 5,mI 47 9,qI 48 (.not z47),mI 49 48,uI 50 49 (.mv z11),uI 51 49 (.not z50),qI 52 (.pick z49 bT z51),mI 53 52,uI 54 53 (.loadN 9 z12),uI 55 53 (.call 292 [z54]),uI 56 53 (.bint .neq z55 (cI 0)),qI 57 (.pick z53 bT z56),qI 58 (.bslice 1 1 [.sc (.bool false)] [(0,(1,z57))]),qI 59 (.app 1 1 z46 z58),mI 4 45,mI 5 59])))))) (.ops [qI 60 d188,mI 19 60]))))))) (sO [mI 61 4,mI 62 5,mI 2 61,mI 3 62] .ret)))),63,[.tmp 2,.tmp 3]⟩
theorem ok189 : compF prog 189 = some cf189:=by kernel_rfl
theorem ac189 : acB prog 189 = true:=by decide +kernel
def cf191 : CF:=⟨sO [d72,d64] (sO [qI 5 (.faddr 13 z3),d89,qI 7 (.bint .neq z6 (cI 0)),mI 8 7,vI 9 8 (.faddr 13 z3),vI 10 8 (.load1 z9),vI 11 8 (.call 155 [z10,cI 2,cI 8]),vI 12 8 (.not z11),qI 13 (.pick z8 z12 bF),mI 14 13,uI 15 14 (.faddr 14 z3),uI 16 14 (.load1 z15),uI 17 14 (.call 155 [z16,cI 0,cI 255]),uI 18 14 (.not z17),qI 19 (.pick z14 bT z18),mI 4 19] .ret),20,[.tmp 4]⟩
theorem ok191 : compF prog 191 = some cf191:=by kernel_rfl
theorem ac191 : acB prog 191 = true:=by decide +kernel
def cf192 : CF:=⟨sO [d71,d72,qI 4 d292,d67] (.seq (sO [qI 6 (.faddr 14 z3),d85,d233] (.cond z8 (sO [qI 9 d56,qI 10 (.loadN 22 z3),qI 11 (.call 299 [z9,z10]),qI 12 (.ext z11 0),qI 13 (.ext z11 1),nI (.store 6 z4 z12),mI 5 13] .ret) .skip)) (.seq (sO [qI 14 (.faddr 3 z2),d131,qI 16 (.bint .neq z15 (cI 0))] (.cond z16 (.seq (sO [qI 17 d56,qI 18 (.call 193 [z17]),qI 19 (.not z18)] (.cond z19 (sO [qI 20 d56,nI (.store 6 z4 z20),d67] .ret) .skip)) (.ops [qI 21 d294,nI (.store 6 z2 z21)])) .skip)) (.seq (sO [qI 22 (.faddr 12 z3),d148] (.cond z23 (.seq (sO [qI 24 d39,d157] (.cond z25 (sO [qI 26 d56,nI (.store 6 z4 z26),d67] .ret) .skip)) (.ops [qI 27 (.build [.sc (.bool false),.sc (.int .i64 0),.sc (.int .i64 0),.sc (.int .i64 0),.sc (.bool false),.sc (.int .i64 0)] [(0,(1,bT))]),nI (.store 6 z2 z27)])) .skip)) (sO [qI 28 d47,d164,qI 30 (.bint .add z29 (cI 1)),qI 31 d47,nI (.store 1 z31 z30)] (.seq (sO [qI 32 (.faddr 13 z3),d147,qI 34 (.bint .neq z33 (cI 0))] (.cond z34 (.ops [qI 35 d294,nI (.store 6 z2 z35)]) .skip)) (sO [qI 36 d56,nI (.store 6 z4 z36),d69] .ret)))))),37,[.cellN 6 4,.tmp 5]⟩
theorem ok192 : compF prog 192 = some cf192:=by kernel_rfl
theorem ac192 : acB prog 192 = true:=by decide +kernel
def cf194 : CF:=⟨sO [d75,d67] (.seq (sO [qI 7 (.faddr 15 z4),d88,qI 9 (.call 155 [z8,cI 0,cI 6]),qI 10 (.not z9),d25,uI 12 11 (.faddr 16 z4),d198,uI 14 11 (.call 155 [z13,cI 0,cI 15]),uI 15 11 (.not z14),qI 16 (.pick z11 bT z15),mI 17 16,uI 18 17 (.faddr 15 z4),uI 19 17 (.load1 z18),uI 20 17 (.bint .neq z19 (cI 0)),uI 21 17 (.mv z20),uI 22 21 (.faddr 16 z4),uI 23 21 (.load1 z22),uI 24 21 (.bint .neq z23 (cI 0)),uI 25 17 (.pick z21 bT z24),uI 26 17 (.mv z25),vI 27 26 (.faddr 13 z4),vI 28 26 d30,vI 29 26 (.bint .neq z28 (cI 0)),vI 30 26 (.mv z29),uI 31 30 (.faddr 14 z4),uI 32 30 (.load1 z31),uI 33 30 (.bint .neq z32 (cI 0)),vI 34 26 (.pick z30 bT z33),uI 35 17 (.pick z26 z34 bF),qI 36 (.pick z17 bT z35)] (.cond z36 (sO [d69] .ret) .skip)) (sO [qI 37 (.mkf (.func 195) [] [z4]),mI 6 37] (sO [qI 38 d28,qI 39 (.nilc z38),qI 40 (.faddr 0 z39),qI 41 (.faddr 3 z40),qI 42 (.load1 z41),mI 43 0,qI 44 (.slc 22 z42 none (some z43)),mI 45 6,qI 46 (.call 196 [z44,z45]),mI 47 46,uI 48 47 d28,uI 49 47 (.faddr 15 z4),uI 50 47 (.load1 z49),uI 51 47 d3,uI 52 47 (.call 197 [z48,z50,z51]),uI 53 47 (.not z52),qI 54 (.pick z47 bT z53),mI 5 54] .ret))),55,[.tmp 5]⟩
theorem ok194 : compF prog 194 = some cf194:=by kernel_rfl
theorem ac194 : acB prog 194 = true:=by decide +kernel
def cf195 : CF:=⟨sO [d71,d68] (sO [qI 4 (.faddr 15 z1),d91,qI 6 (.bint .neq z5 (cI 0)),mI 7 6,vI 8 7 (.faddr 15 z2),vI 9 7 (.load1 z8),vI 10 7 (.bint .neq z9 (cI 0)),qI 11 (.pick z7 z10 bF),mI 12 11,uI 13 12 (.faddr 16 z1),uI 14 12 (.load1 z13),uI 15 12 (.faddr 16 z2),uI 16 12 (.load1 z15),uI 17 12 (.bint .and z14 z16),uI 18 12 (.bint .neq z17 (cI 0)),qI 19 (.pick z12 bT z18),mI 3 19] .ret),20,[.tmp 3]⟩
theorem ok195 : compF prog 195 = some cf195:=by kernel_rfl
theorem ac195 : acB prog 195 = true:=by decide +kernel
def cf196 : CF:=⟨sO [d64] (sO [d4,d9,qI 7 (.call 300 [z5,z6]),d234,mI 4 8] .ret),9,[.tmp 4]⟩
theorem ok196 : compF prog 196 = some cf196:=by kernel_rfl
theorem ac196 : acB prog 196 = true:=by decide +kernel
def cf197 : CF:=⟨sO [d76,qI 5 (.box z2),d65] (sO [qI 8 (.mkf (.func 301) [] [z3,z5]),mI 7 8] (.seq (sO [mI 9 1,qI 10 (.bint .geq z9 (cI 4)),d25,vI 12 11 (.mv z7),vI 13 11 (.callv z12 [cI 1]),vI 14 11 (.not z13),qI 15 (.pick z11 z14 bF)] (.cond z15 d202 .skip)) (.seq (sO [mI 16 1] (.block 0 (.seq (sO [qI 18 (.bint .eql z16 (cI 2)),mI 17 18] (.cond z17 .skip (.ops [qI 19 (.bint .eql z16 (cI 5)),mI 17 19]))) (.cond z17 (sO [mI 20 7,qI 21 (.callv z20 [cI 4]),mI 6 21] .ret) (.seq (sO [qI 23 (.bint .eql z16 (cI 3)),mI 22 23] (.cond z22 .skip (.ops [qI 24 (.bint .eql z16 (cI 6)),mI 22 24]))) (.cond z22 (sO [mI 25 7,qI 26 (.callv z25 [cI 8]),mI 27 26,vI 28 27 d27,vI 30 27 d27,⟨some 29,some (some 27,true),.call 302 [z28,cI 2],[.load1 z3]⟩,vI 31 27 (.call 302 [z30,cI 8]),vI 32 27 (.bint .gtr z29 z31),qI 33 (.pick z27 z32 bF),mI 6 33] .ret) .skip)))))) d203))),34,[.tmp 6]⟩
theorem ok197 : compF prog 197 = some cf197:=by kernel_rfl
theorem ac197 : acB prog 197 = true:=by decide +kernel
def cf198 : CF:=⟨sO [d72,d64] (sO [qI 11 (.loadN 22 z3),qI 12 (.call 165 [z11]),mI 10 12,qI 13 (.ext z10 0),qI 14 (.ext z10 1),mI 5 13,mI 6 14] (sO [qI 15 (.faddr 17 z3),d126,d243,mI 18 17,vI 19 18 (.faddr 17 z3),vI 20 18 (.load1 z19),vI 21 18 (.call 155 [z20,cI 50,cI 75]),vI 22 18 (.not z21),qI 23 (.pick z18 z22 bF),mI 24 23,uI 25 24 (.faddr 18 z3),uI 26 24 (.load1 z25),uI 27 24 (.call 155 [z26,cI 0,cI 3]),uI 28 24 (.not z27),qI 29 (.pick z24 bT z28),mI 7 29] (.seq (sO [qI 30 (.faddr 20 z3),d115,qI 32 (.len z31),qI 33 d29] (.block 0 (.loop (sO [qI 34 (.bint .lss z33 z32)] (.seq (.cond z34 .skip d10) (.seq (.block 1 (sO [mI 35 33,qI 36 (.iaddr 3 z31 z33),qI 37 (.loadN 3 z36),qI 9 (.alloc [.sc (.int .i64 0),.sc (.int .i64 0),.sc (.bool false)]),mI 8 35,nI (.store 3 z9 z37)] (.ops [mI 38 7,mI 39 38,uI 40 39 d51,uI 41 39 (.load1 z40),uI 42 39 (.mv z5),uI 43 39 (.bint .sub z42 (cI 1)),d253,uI 45 39 (.not z44),qI 46 (.pick z39 bT z45),mI 47 46,uI 48 47 (.faddr 1 z9),uI 49 47 (.load1 z48),uI 50 47 (.call 155 [z49,cI 1,cI 60000000]),uI 51 47 (.not z50),qI 52 (.pick z47 bT z51),mI 53 52,uI 54 53 (.mv z8),uI 55 53 (.bint .gtr z54 (cI 0)),uI 56 53 (.mv z55),vI 57 56 d51,vI 58 56 (.load1 z57),vI 59 56 (.faddr 20 z3),vI 60 56 (.load1 z59),vI 61 56 (.mv z8),vI 62 56 (.bint .sub z61 (cI 1)),vI 63 56 (.iaddr 3 z60 z62),vI 64 56 (.faddr 0 z63),vI 65 56 d33,vI 66 56 (.bint .leq z58 z65),uI 67 53 (.pick z56 z66 bF),qI 68 (.pick z53 bT z67),mI 7 68]))) (.ops [qI 69 d181,mI 33 69]))))))) (sO [mI 70 7,mI 4 70] .ret)))),71,[.tmp 4]⟩
theorem ok198 : compF prog 198 = some cf198:=by kernel_rfl
theorem ac198 : acB prog 198 = true:=by decide +kernel
def cf199 : CF:=⟨sO [d76,d75,d67] (sO [qI 11 d28,d99,d169,qI 14 (.loadN 6 z13),qI 15 (.loadN 7 z3),d305,qI 16 (.call 184 [z14,z15]),mI 10 16,qI 17 (.ext z10 0),qI 18 (.ext z10 1),nI (.store 7 z6 z17),mI 7 18] (.seq (sO [mI 19 7,qI 20 (.not z19),mI 21 20,uI 22 21 (.loadN 13 z4),uI 23 21 (.call 183 [z22]),uI 24 21 (.not z23),qI 25 (.pick z21 bT z24),mI 26 25,uI 27 26 (.faddr 3 z6),uI 28 26 d30,uI 29 26 d43,uI 30 26 (.load1 z29),uI 31 26 (.bint .eql z28 z30),qI 32 (.pick z26 bT z31)] (.cond z32 d207 .skip)) (sO [qI 33 d28,qI 34 (.nilc z33),qI 35 (.faddr 0 z34),qI 36 (.faddr 3 z35),d136,qI 38 d43,d149,qI 40 (.iaddr 22 z37 z39),qI 41 (.loadN 22 z40),qI 42 d28,qI 43 (.nilc z42),qI 44 (.faddr 0 z43),qI 45 (.faddr 3 z44),d116,qI 47 (.faddr 3 z6),qI 48 (.load1 z47),qI 49 (.iaddr 22 z46 z48),qI 50 (.loadN 22 z49),d316,d317,⟨none,none,.store 22 z8 z41,[.loadN 22 z49,.load1 z47,.load1 z45,.load1 z2]⟩,nI (.store 22 z9 z50)] (sO [qI 51 (.faddr 13 z8),qI 52 (.load1 z51),qI 53 (.bint .neq z52 (cI 0)),mI 54 53,uI 55 54 (.faddr 15 z8),uI 56 54 (.load1 z55),uI 57 54 (.bint .neq z56 (cI 0)),qI 58 (.pick z54 bT z57),mI 59 58,uI 60 59 (.faddr 16 z8),uI 61 59 (.load1 z60),uI 62 59 (.bint .and z61 (cI 12)),uI 63 59 (.bint .neq z62 (cI 0)),qI 64 (.pick z59 bT z63),mI 65 64,uI 66 65 (.faddr 14 z8),uI 67 65 (.load1 z66),uI 68 65 (.faddr 14 z9),uI 69 65 (.load1 z68),uI 70 65 (.bint .neq z67 z69),qI 71 (.pick z65 bT z70),mI 72 71,uI 73 72 (.faddr 12 z9),uI 74 72 (.load1 z73),qI 75 (.pick z72 bT z74),mI 76 75,uI 77 76 (.faddr 16 z9),uI 78 76 (.load1 z77),uI 79 76 (.bint .and z78 (cI 3)),uI 80 76 (.bint .neq z79 (cI 0)),qI 81 (.pick z76 bT z80),mI 5 81] .ret)))),82,[.tmp 5]⟩
theorem ok199 : compF prog 199 = some cf199:=by kernel_rfl
theorem ac199 : acB prog 199 = true:=by decide +kernel
def cf200 : CF:=⟨d314,8,[.tmp 2]⟩
theorem ok200 : compF prog 200 = some cf200:=by kernel_rfl
theorem ac200 : acB prog 200 = true:=by decide +kernel
def cf201 : CF:=⟨sO [d70,d254] (sO [d255] (.seq (sO [d143,d85,d74,qI 9 d29] (.block 0 (.loop (sO [qI 10 (.bint .lss z9 z8)] (.seq (.cond z10 .skip d10) (.seq (.block 1 (sO [qI 11 (.iaddr 13 z7 z9),qI 12 (.loadN 13 z11),d310,nI (.store 13 z5 z12)] (.ops [qI 13 d41,d112,qI 15 (.loadN 13 z5),⟨some 16,none,.call 288 [z15],[.load1 z13]⟩,qI 17 (.bslice 1 13 [.sc (.int .i64 0),.sc (.int .i64 0),.sc (.int .i64 0),.sc (.int .i64 0),.sc (.int .i64 0),.sc .nils,.sc .nils,.sc (.int .i64 0),.sc (.int .i64 0),.sc (.int .i64 0),.sc .nils,.sc (.int .i64 0),.sc (.int .i64 0)] [(0,(13,z16))]),qI 18 (.app 13 152 z14 z17),qI 19 d41,nI (.store 1 z19 z18)]))) (.ops [qI 20 (.bint .add z9 (cI 1)),mI 9 20]))))))) (sO [qI 21 d48,d128,qI 23 d52,d129,qI 25 (.app 4 32 z22 z24),qI 26 d48,nI (.store 1 z26 z25)] (sO [qI 27 d46,nI (.store 2 z2 z27)] .ret)))),28,[.cellN 2 2]⟩
theorem ok201 : compF prog 201 = some cf201:=by kernel_rfl
theorem ac201 : acB prog 201 = true:=by decide +kernel
def cf207 : CF:=⟨sO [qI 2 (.mv bF)] (sO [mI 3 0,mI 4 0,qI 5 (.bint .neq z3 z4),mI 2 5] .ret),6,[.tmp 2]⟩
theorem ok207 : compF prog 207 = some cf207:=by kernel_rfl
theorem ac207 : acB prog 207 = true:=by decide +kernel
def cf208 : CF:=⟨sO [mI 10 1,mI 8 10] (.block 0 (.loop (.block 1 (sO [mI 11 8,qI 12 (.bint .mul (cI 2) z11),qI 13 d197,mI 9 13] (.seq (sO [mI 14 9,mI 15 2,qI 16 (.bint .geq z14 z15)] (.cond z16 d10 .skip)) (.seq (sO [mI 17 9,qI 18 d184,mI 19 2,qI 20 (.bint .lss z18 z19),mI 21 20,vI 22 21 d3,vI 23 21 (.mv z3),vI 24 21 (.mv z9),vI 25 21 (.bint .add z23 z24),vI 26 21 (.iaddr 1 z22 z25),vI 27 21 (.load1 z26),vI 28 21 d3,vI 29 21 (.mv z3),vI 30 21 (.mv z9),vI 31 21 (.bint .add z29 z30),vI 32 21 (.bint .add z31 (cI 1)),vI 33 21 (.iaddr 1 z28 z32),vI 34 21 (.load1 z33),vI 35 21 (.call 127 [z27,z34]),qI 36 (.pick z21 z35 bF)] (.cond z36 (.ops [mI 37 9,qI 38 (.bint .add z37 (cI 1)),mI 9 38]) .skip)) (.seq (sO [mI 39 0,mI 40 3,mI 41 8,qI 42 (.bint .add z40 z41),qI 43 (.iaddr 1 z39 z42),d150,mI 45 0,mI 46 3,mI 47 9,qI 48 (.bint .add z46 z47),qI 49 (.iaddr 1 z45 z48),d142,qI 51 (.call 127 [z44,z50]),qI 52 (.not z51)] (.cond z52 .ret .skip)) (sO [mI 53 0,mI 54 3,mI 55 8,qI 56 (.bint .add z54 z55),mI 57 0,mI 58 3,mI 59 9,qI 60 (.bint .add z58 z59),mI 61 0,mI 62 3,mI 63 9,qI 64 (.bint .add z62 z63),qI 65 (.iaddr 1 z61 z64),d141,mI 67 0,mI 68 3,mI 69 8,qI 70 (.bint .add z68 z69),qI 71 (.iaddr 1 z67 z70),qI 72 (.load1 z71),qI 73 (.iaddr 1 z53 z56),nI (.store 1 z73 z66),qI 74 (.iaddr 1 z57 z60),nI (.store 1 z74 z72)] (.ops [mI 75 9,mI 8 75]))))))))),76,[]⟩
theorem ok208 : compF prog 208 = some cf208:=by kernel_rfl
theorem ac208 : acB prog 208 = true:=by decide +kernel
def cf209 : CF:=⟨sO [d248] (sO [d1,qI 4 (.conv .u64 z3),qI 5 (.call 59 [z4]),qI 6 (.shft .shl (.const (.int .u64 1)) z5),mI 2 6] .ret),7,[.tmp 2]⟩
theorem ok209 : compF prog 209 = some cf209:=by kernel_rfl
theorem ac209 : acB prog 209 = true:=by decide +kernel
def cf210 : CF:=⟨sO [d248] (sO [d1,d77,d91,d0,d78,d88,qI 9 (.shft .shl z8 (.const (.int .u64 13))),qI 10 (.bint .xor z5 z9),qI 11 (.nilc z3),nI (.store 1 z11 z10)] (sO [d21,d110,d112,d13,d111,d156,qI 18 (.shft .shr z17 (.const (.int .u64 7))),qI 19 (.bint .xor z14 z18),qI 20 (.nilc z12),nI (.store 1 z20 z19)] (sO [mI 21 0,qI 22 (.nilc z21),d148,mI 24 0,qI 25 (.nilc z24),d130,qI 27 (.shft .shl z26 (.const (.int .u64 17))),qI 28 (.bint .xor z23 z27),qI 29 (.nilc z21),nI (.store 1 z29 z28)] (sO [mI 30 0,qI 31 (.nilc z30),qI 32 (.load1 z31),mI 2 32] .ret)))),33,[.tmp 2]⟩
theorem ok210 : compF prog 210 = some cf210:=by kernel_rfl
theorem ac210 : acB prog 210 = true:=by decide +kernel
def cf211 : CF:=⟨sO [d100] (sO [d2,mI 8 1,qI 9 (.bint .sub z8 (cI 1)),mI 10 1,d20,qI 12 d191,mI 13 2,qI 14 (.call 212 [z7,z9,z10,z12,z13]),mI 6 14] .ret),15,[.tmp 6]⟩
theorem ok211 : compF prog 211 = some cf211:=by kernel_rfl
theorem ac211 : acB prog 211 = true:=by decide +kernel
def cf212 : CF:=⟨sO [qI 10 d29] (sO [d21,mI 13 1,mI 14 2,mI 15 4,qI 16 (.call 310 [z12,z13,z14,z15]),mI 11 16,qI 17 (.ext z11 0),qI 18 (.ext z11 1),mI 1 17,mI 2 18] (sO [mI 20 0,mI 21 2,mI 22 3,mI 23 4,qI 24 (.call 310 [z20,z21,z22,z23]),mI 19 24,qI 25 (.ext z19 0),qI 26 (.ext z19 1),mI 2 25,mI 3 26] (sO [mI 28 0,mI 29 1,mI 30 2,mI 31 4,qI 32 (.call 310 [z28,z29,z30,z31]),mI 27 32,qI 33 (.ext z27 0),qI 34 (.ext z27 1),mI 1 33,mI 2 34] (sO [mI 35 2,mI 10 35] .ret)))),36,[.tmp 10]⟩
theorem ok212 : compF prog 212 = some cf212:=by kernel_rfl
theorem ac212 : acB prog 212 = true:=by decide +kernel
def cf213 : CF:=⟨sO [d66] (sO [d1,d7,qI 5 (.bstr .neq z3 z4),mI 2 5] .ret),6,[.tmp 2]⟩
theorem ok213 : compF prog 213 = some cf213:=by kernel_rfl
theorem ac213 : acB prog 213 = true:=by decide +kernel
def cf214 : CF:=⟨sO [d105] (sO [qI 4 d26,d4,qI 6 (.callv z4 [z5]),qI 7 (.bint .eql z6 (cI 0)),qI 8 (.call 66 [z7]),mI 3 8] .ret),9,[.tmp 3]⟩
theorem ok214 : compF prog 214 = some cf214:=by kernel_rfl
theorem ac214 : acB prog 214 = true:=by decide +kernel
def cf215 : CF:=⟨sO [qI 2 (.mv (.const .nilFunc))] (sO [mI 5 0,qI 6 (.call 311 [z5]),mI 3 6] (sO [qI 4 (.alloc [.sc .nilf])] (.seq (.block 0 (sO [mI 9 0,qI 10 (.call 312 [z9,.const (.string ⟨#[61]⟩),.const (.string ⟨#[61]⟩)]),mI 8 10] (.cond z8 (.ops [nI (.store 1 z4 (.func 313))]) (sO [mI 12 0,qI 13 (.call 312 [z12,.const (.string ⟨#[33]⟩),.const (.string ⟨#[61]⟩)]),mI 11 13] (.cond z11 (.ops [nI (.store 1 z4 (.func 314))]) (sO [mI 15 0,qI 16 (.call 312 [z15,.const (.string ⟨#[60]⟩),.const (.string ⟨#[61]⟩)]),mI 14 16] (.cond z14 (.ops [nI (.store 1 z4 (.func 315))]) (sO [mI 18 0,qI 19 (.call 312 [z18,.const (.string ⟨#[62]⟩),.const (.string ⟨#[61]⟩)]),mI 17 19] (.cond z17 (.ops [nI (.store 1 z4 (.func 316))]) (sO [mI 21 0,qI 22 (.call 24 [z21,.const (.string ⟨#[60]⟩)]),mI 20 22] (.cond z20 (.ops [nI (.store 1 z4 (.func 317))]) (sO [mI 24 0,qI 25 (.call 24 [z24,.const (.string ⟨#[62]⟩)]),mI 23 25] (.cond z23 (.ops [nI (.store 1 z4 (.func 318))]) (sO [mI 7 3,mI 2 7] .ret)))))))))))))) (sO [mI 26 3,mI 27 0,qI 28 (.call 311 [z27]),qI 29 (.mkf (.func 319) [] [z4]),qI 30 (.call 64 [z26,z28,z29]),mI 2 30] .ret)))),31,[.tmp 2]⟩
theorem ok215 : compF prog 215 = some cf215:=by kernel_rfl
theorem ac215 : acB prog 215 = true:=by decide +kernel
def cf243 : CF:=⟨sO [d64] (sO [d4,d9,qI 7 (.call 361 [z5,z6]),d234,mI 4 8] .ret),9,[.tmp 4]⟩
theorem ok243 : compF prog 243 = some cf243:=by kernel_rfl
theorem ac243 : acB prog 243 = true:=by decide +kernel
def cf249 : CF:=⟨sO [d70,d102] (.seq (sO [qI 4 d45,d91,qI 6 (.bint .lss z5 (cI 0)),mI 7 6,uI 8 7 d45,d144,uI 10 7 (.bint .gtr z9 (cI 6)),d208,mI 12 11,uI 13 12 d52,uI 14 12 (.load1 z13),uI 15 12 (.bint .lss z14 (cI (-2))),qI 16 (.pick z12 bT z15),mI 17 16,uI 18 17 d52,uI 19 17 (.load1 z18),uI 20 17 (.bint .gtr z19 (cI 2)),qI 21 (.pick z17 bT z20),mI 22 21,uI 23 22 d35,uI 24 22 (.load1 z23),uI 25 22 (.bint .lss z24 (cI (-1))),qI 26 (.pick z22 bT z25),mI 27 26,uI 28 27 d35,uI 29 27 (.load1 z28),uI 30 27 (.bint .gtr z29 (cI 9)),qI 31 (.pick z27 bT z30)] (.cond z31 (sO [qI 2 (.mv (cI 18))] .ret) .skip)) (.seq (sO [qI 32 (.loadN 3 z1),qI 33 (.call 281 [z32]),mI 3 33] (sO [mI 34 3,qI 35 (.bint .lss z34 (cI 0)),mI 36 35,uI 37 36 (.mv z3),uI 38 36 (.bint .gtr z37 (cI 127)),qI 39 (.pick z36 bT z38)] (.cond z39 (sO [qI 2 (.mv (cI 18))] .ret) .skip))) d232)),40,[.tmp 2]⟩
theorem ok249 : compF prog 249 = some cf249:=by kernel_rfl
theorem ac249 : acB prog 249 = true:=by decide +kernel
def cf252 : CF:=⟨sO [d70,d102] (.seq (.block 0 (sO [qI 4 d45,d91,qI 6 (.bint .lss z5 (cI 1)),mI 7 6,uI 8 7 d45,d144,uI 10 7 (.bint .gtr z9 (cI 64)),d208,mI 3 11] (.cond z3 d231 (sO [qI 13 d52,d112,qI 15 (.bint .lss z14 (cI 1)),mI 16 15,d199,d187,uI 19 16 (.bint .gtr z18 (cI 64)),d216,mI 21 20,uI 22 21 d52,uI 23 21 (.load1 z22),uI 24 21 d52,uI 25 21 (.load1 z24),uI 26 21 (.bint .sub z25 (cI 1)),uI 27 21 (.bint .and z23 z26),uI 28 21 (.bint .neq z27 (cI 0)),qI 29 (.pick z21 bT z28),mI 12 29] (.cond z12 d239 (sO [qI 31 (.loadN 8 z1),qI 32 (.call 368 [z31]),qI 33 (.not z32),mI 30 33] (.cond z30 (sO [qI 2 (.mv (cI 19))] .ret) .skip))))))) d232),34,[.tmp 2]⟩
theorem ok252 : compF prog 252 = some cf252:=by kernel_rfl
theorem ac252 : acB prog 252 = true:=by decide +kernel
def cf254 : CF:=⟨sO [qI 4 (.mv (cI 0))] (.seq (sO [mI 6 0,qI 7 (.len z6),qI 8 (.mv (cI 0))] (.block 0 (.loop (sO [qI 9 (.bint .lss z8 z7)] (.seq (.cond z9 .skip (.exit 0)) (.seq (.block 1 (sO [mI 10 8,mI 5 10] (sO [mI 11 1,mI 12 0,mI 13 5,qI 14 (.iaddr 1 z12 z13),qI 15 (.load1 z14),qI 16 (.callv z11 [z15])] (.cond z16 (sO [mI 17 5,mI 4 17] .ret) .skip)))) (.ops [qI 18 (.bint .add z8 (cI 1)),mI 8 18]))))))) (sO [qI 4 (.mv (cI (-1)))] .ret)),19,[.tmp 4]⟩
theorem ok254 : compF prog 254 = some cf254:=by kernel_rfl
theorem ac254 : acB prog 254 = true:=by decide +kernel
def cf255 : CF:=⟨sO [d65] (.seq d295 (.seq (sO [d13,d82,d120] (.block 0 (.loop (sO [d224] (.seq d217 (.seq (.block 1 (sO [mI 19 17,qI 20 (.iaddr 13 z15 z17),qI 21 (.loadN 13 z20),d309,mI 7 19,nI (.store 13 z8 z21)] (sO [mI 22 1,mI 23 7,qI 24 (.iaddr 13 z22 z23),qI 25 (.loadN 13 z24),qI 9 d308,nI (.store 13 z9 z25)] (sO [mI 26 2,qI 27 (.loadN 13 z8),qI 28 (.loadN 13 z9),d237,d83] d264)))) d272)))))) d203)),32,[.tmp 6]⟩
theorem ok255 : compF prog 255 = some cf255:=by kernel_rfl
theorem ac255 : acB prog 255 = true:=by decide +kernel
def cf256 : CF:=⟨sO [d71,d72,d64] (sO [d118,qI 6 d40,d119,qI 8 (.loadN 2 z7),d257,d12,vI 11 10 (.loadN 13 z2),vI 12 10 (.loadN 13 z3),vI 13 10 (.call 275 [z11,z12]),qI 14 (.pick z10 z13 bF),mI 4 14] .ret),15,[.tmp 4]⟩
theorem ok256 : compF prog 256 = some cf256:=by kernel_rfl
theorem ac256 : acB prog 256 = true:=by decide +kernel
def cf257 : CF:=⟨sO [d64] (sO [d4,d9,qI 7 (.call 370 [z5,z6]),mI 4 7] .ret),8,[.tmp 4]⟩
theorem ok257 : compF prog 257 = some cf257:=by kernel_rfl
theorem ac257 : acB prog 257 = true:=by decide +kernel
def cf258 : CF:=⟨sO [d66] (sO [d1,qI 4 (.bint .lss z3 (.const (.int .u8 32))),mI 5 4,uI 6 5 d3,uI 7 5 (.bint .eql z6 (.const (.int .u8 127))),qI 8 (.pick z5 bT z7),mI 2 8] .ret),9,[.tmp 2]⟩
theorem ok258 : compF prog 258 = some cf258:=by kernel_rfl
theorem ac258 : acB prog 258 = true:=by decide +kernel
def cf259 : CF:=⟨sO [qI 4 (.mv bF)] (sO [mI 5 0,mI 6 1,qI 7 (.call 371 [z5,z6]),qI 8 (.bint .geq z7 (cI 0)),mI 4 8] .ret),9,[.tmp 4]⟩
theorem ok259 : compF prog 259 = some cf259:=by kernel_rfl
theorem ac259 : acB prog 259 = true:=by decide +kernel
def cf260 : CF:=⟨sO [d70,d240] (sO [qI 3 (.mkf (.func 372) [] [z1]),mI 2 3] .ret),4,[.tmp 2]⟩
theorem ok260 : compF prog 260 = some cf260:=by kernel_rfl
theorem ac260 : acB prog 260 = true:=by decide +kernel
def cf261 : CF:=⟨sO [qI 2 d297,d105] (.seq (sO [d7,qI 5 (.bint .lss z4 (cI 1)),mI 6 5,uI 7 6 d3,uI 8 6 (.bint .gtr z7 (cI 9)),qI 9 (.pick z6 bT z8)] (.cond z9 (sO [qI 10 (.build [.sc (.str ⟨#[]⟩),.sc (.int .u8 0),.sc (.int .i64 0),.sc (.int .i64 0),.sc (.int .i64 0),.sc (.int .i64 0),.sc (.int .i64 0)] []),nI (.store 7 z2 z10),qI 3 (.mv (cI 11))] .ret) .skip)) (sO [qI 11 (.call 373 []),d21,qI 13 (.bint .sub z12 (cI 1)),qI 14 (.prim ⟨some 14,.index 460 (.tmp 11) (.tmp 13),353,"clef.go:55",#[⟨0,.data⟩,⟨2,.data⟩],none⟩),nI (.store 7 z2 z14),d105] .ret)),15,[.cellN 7 2,.tmp 3]⟩
theorem ok261 : compF prog 261 = some cf261:=by kernel_rfl
theorem ac261 : acB prog 261 = true:=by decide +kernel
def cf262 : CF:=⟨sO [d70,d102,d105] (.seq (sO [qI 5 (.loadN 8 z1),qI 6 (.call 252 [z5]),mI 4 6] d287) (sO [qI 10 (.loadN 8 z1),qI 11 (.call 374 [z10]),mI 2 11,d105] .ret)),12,[.tmp 2,.tmp 3]⟩
theorem ok262 : compF prog 262 = some cf262:=by kernel_rfl
theorem ac262 : acB prog 262 = true:=by decide +kernel
def cf264 : CF:=⟨sO [d75,d67] (sO [qI 10 (.loadN 22 z4),qI 11 (.call 165 [z10]),mI 9 11,qI 12 (.ext z9 0),qI 13 (.ext z9 1),d249,nI (.store 1 z6 z12),mI 7 13] (.seq (sO [mI 14 7,qI 15 (.bint .neq z14 (cI 0))] (.cond z15 d207 .skip)) (sO [qI 8 d163,nI (.store 1 z8 (.func 265))] (sO [qI 16 (.faddr 21 z4),d156,qI 18 (.mkf (.func 267) [] [z8,z2,z6]),qI 19 (.call 266 [z17,z18]),mI 5 19] .ret)))),20,[.tmp 5]⟩
theorem ok264 : compF prog 264 = some cf264:=by kernel_rfl
theorem ac264 : acB prog 264 = true:=by decide +kernel
def cf265 : CF:=⟨sO [d70,d66] (sO [qI 3 d61,qI 4 (.call 173 [z3]),qI 5 (.bint .neq z4 (cI 0)),mI 2 5] .ret),6,[.tmp 2]⟩
theorem ok265 : compF prog 265 = some cf265:=by kernel_rfl
theorem ac265 : acB prog 265 = true:=by decide +kernel
def cf266 : CF:=⟨sO [d64] (sO [d4,d9,qI 7 (.call 375 [z5,z6]),d234,mI 4 8] .ret),9,[.tmp 4]⟩
theorem ok266 : compF prog 266 = some cf266:=by kernel_rfl
theorem ac266 : acB prog 266 = true:=by decide +kernel
def cf267 : CF:=⟨sO [qI 4 (.box z0),d67] (sO [qI 6 d57,d85,qI 8 (.mkf (.func 269) [] [z1,z2,z3]),qI 9 (.call 268 [z7,z8]),mI 5 9] .ret),10,[.tmp 5]⟩
theorem ok267 : compF prog 267 = some cf267:=by kernel_rfl
theorem ac267 : acB prog 267 = true:=by decide +kernel
def cf268 : CF:=⟨sO [d64] (sO [d4,d9,qI 7 (.call 376 [z5,z6]),d234,mI 4 8] .ret),9,[.tmp 4]⟩
theorem ok268 : compF prog 268 = some cf268:=by kernel_rfl
theorem ac268 : acB prog 268 = true:=by decide +kernel
def cf269 : CF:=⟨sO [qI 4 (.box z0),d67] (sO [qI 6 d49,d85,qI 8 d26,qI 9 (.call 270 [z7,z8]),qI 10 (.not z9),d25,vI 12 11 d28,vI 13 11 d53,vI 14 11 d27,⟨some 15,some (some 11,true),.call 271 [z13,z14],[.load1 z2]⟩,vI 16 11 (.callv z12 [z15]),qI 17 (.pick z11 z16 bF),mI 5 17] .ret),18,[.tmp 5]⟩
theorem ok269 : compF prog 269 = some cf269:=by kernel_rfl
theorem ac269 : acB prog 269 = true:=by decide +kernel
def cf270 : CF:=⟨sO [d64] (sO [d4,d9,qI 7 (.call 377 [z5,z6]),d234,mI 4 8] .ret),9,[.tmp 4]⟩
theorem ok270 : compF prog 270 = some cf270:=by kernel_rfl
theorem ac270 : acB prog 270 = true:=by decide +kernel
def cf271 : CF:=⟨sO [d71,d103] (sO [qI 8 (.loadN 2 z2),mI 9 1,qI 10 (.call 378 [z8,z9]),mI 7 10,qI 11 (.ext z7 0),qI 12 (.ext z7 1),mI 5 11,mI 6 12] (sO [mI 13 6,mI 4 13] .ret)),14,[.tmp 4]⟩
theorem ok271 : compF prog 271 = some cf271:=by kernel_rfl
theorem ac271 : acB prog 271 = true:=by decide +kernel
def cf272 : CF:=⟨sO [d102] (.seq (sO [d4,qI 6 (.len z5),d101] (.block 0 (.loop (sO [qI 8 (.bint .lss z7 z6)] (.seq (.cond z8 .skip d10) (.seq (.block 1 (sO [qI 9 (.iaddr 1 z5 z7),d98,mI 4 10] (sO [mI 11 4,qI 12 (.bint .neq z11 (cI 0))] (.cond z12 (sO [mI 13 4,mI 2 13] .ret) .skip)))) (.ops [qI 14 (.bint .add z7 (cI 1)),mI 7 14]))))))) d232),15,[.tmp 2]⟩
theorem ok272 : compF prog 272 = some cf272:=by kernel_rfl
theorem ac272 : acB prog 272 = true:=by decide +kernel
def cf273 : CF:=⟨sO [d103] (.seq (sO [d4,qI 6 (.bint .lss z5 (cI 0)),mI 7 6,uI 8 7 d3,uI 9 7 d5,uI 10 7 (.bint .gtr z8 z9),d208] (.cond z11 d235 .skip)) d236),12,[.tmp 4]⟩
theorem ok273 : compF prog 273 = some cf273:=by kernel_rfl
theorem ac273 : acB prog 273 = true:=by decide +kernel
def cf274 : CF:=⟨sO [d66] (sO [d1,qI 4 (.bint .geq z3 (cI 1)),mI 5 4,vI 6 5 d3,vI 7 5 (.bint .leq z6 (cI 4)),qI 8 (.pick z5 z7 bF),mI 2 8] .ret),9,[.tmp 2]⟩
theorem ok274 : compF prog 274 = some cf274:=by kernel_rfl
theorem ac274 : acB prog 274 = true:=by decide +kernel
def cf275 : CF:=⟨sO [d71,d72,d64] (sO [qI 5 (.faddr 2 z2),d89,qI 7 d42,d88,qI 9 (.bint .eql z6 z8),d12,vI 11 10 (.faddr 3 z2),vI 12 10 (.loadN 2 z11),vI 13 10 d43,vI 14 10 (.loadN 2 z13),vI 15 10 (.bagg false [.int,.int] z12 z14),d209,mI 17 16,vI 18 17 (.faddr 7 z2),vI 19 17 (.load1 z18),vI 20 17 (.faddr 7 z3),vI 21 17 (.load1 z20),vI 22 17 (.bint .eql z19 z21),d210,mI 24 23,vI 25 24 (.faddr 8 z2),vI 26 24 (.load1 z25),vI 27 24 (.faddr 8 z3),vI 28 24 d30,vI 29 24 (.bint .eql z26 z28),qI 30 (.pick z24 z29 bF),mI 31 30,vI 32 31 (.faddr 9 z2),vI 33 31 (.load1 z32),vI 34 31 (.faddr 9 z3),vI 35 31 (.load1 z34),vI 36 31 (.bint .eql z33 z35),qI 37 (.pick z31 z36 bF),mI 38 37,vI 39 38 (.faddr 11 z2),vI 40 38 (.load1 z39),vI 41 38 (.faddr 11 z3),vI 42 38 (.load1 z41),vI 43 38 (.bint .eql z40 z42),qI 44 (.pick z38 z43 bF),mI 45 44,vI 46 45 (.faddr 12 z2),vI 47 45 (.load1 z46),vI 48 45 (.faddr 12 z3),vI 49 45 (.load1 z48),vI 50 45 (.bint .eql z47 z49),qI 51 (.pick z45 z50 bF),mI 52 51,vI 53 52 (.faddr 5 z2),vI 54 52 (.load1 z53),vI 55 52 d44,vI 56 52 (.load1 z55),vI 57 52 (.call 379 [z54,z56]),qI 58 (.pick z52 z57 bF),mI 59 58,vI 60 59 (.faddr 6 z2),vI 61 59 (.load1 z60),vI 62 59 (.faddr 6 z3),vI 63 59 (.load1 z62),vI 64 59 (.call 380 [z61,z63]),qI 65 (.pick z59 z64 bF),mI 66 65,vI 67 66 (.faddr 10 z2),vI 68 66 (.load1 z67),vI 69 66 (.faddr 10 z3),vI 70 66 (.load1 z69),vI 71 66 (.call 381 [z68,z70]),qI 72 (.pick z66 z71 bF),mI 4 72] .ret),73,[.tmp 4]⟩
theorem ok275 : compF prog 275 = some cf275:=by kernel_rfl
theorem ac275 : acB prog 275 = true:=by decide +kernel
def cf276 : CF:=⟨sO [d70,d311] (.seq (sO [qI 4 d35,d91,qI 6 (.bint .eql z5 (cI 1)),mI 7 6,uI 8 7 d35,d144,uI 10 7 (.call 274 [z9]),uI 11 7 (.not z10),qI 12 (.pick z7 bT z11)] (.cond z12 (sO [qI 13 d61,nI (.store 13 z2 z13)] .ret) .skip)) (sO [qI 14 d45,d177,qI 16 d35,d156,qI 18 (.faddr 9 z1),d135,qI 20 (.build [.sc (.int .i64 0),.sc (.int .i64 0),.sc (.int .i64 0),.sc (.int .i64 0),.sc (.int .i64 0),.sc .nils,.sc .nils,.sc (.int .i64 0),.sc (.int .i64 0),.sc (.int .i64 0),.sc .nils,.sc (.int .i64 0),.sc (.int .i64 0)] [(0,(2,z15)),(2,(1,z17)),(9,(1,z19))]),qI 3 d308,nI (.store 13 z3 z20)] (.seq (sO [qI 21 d35,d128,qI 23 (.bint .neq z22 (cI 3))] (.cond z23 (.ops [qI 24 d36,qI 25 (.loadN 2 z24),qI 26 d43,nI (.store 2 z26 z25)]) .skip)) (.seq (sO [qI 27 d35,d132,qI 29 (.bint .neq z28 (cI 4))] (.cond z29 (.ops [qI 30 (.faddr 7 z1),d115,qI 32 (.call 382 [z31]),qI 33 (.faddr 7 z3),nI (.store 1 z33 z32)]) .skip)) (sO [qI 34 (.loadN 13 z3),nI (.store 13 z2 z34)] .ret))))),35,[.cellN 13 2]⟩
theorem ok276 : compF prog 276 = some cf276:=by kernel_rfl
theorem ac276 : acB prog 276 = true:=by decide +kernel
def cf277 : CF:=⟨sO [d70,d102] (.seq (sO [d124,d93,qI 5 (.bint .lss z4 (cI (-1))),mI 6 5,uI 7 6 d45,uI 8 6 (.load1 z7),uI 9 6 (.bint .gtr z8 (cI 8)),qI 10 (.pick z6 bT z9),d25,uI 12 11 d52,d198,uI 14 11 (.bint .lss z13 (cI 0)),qI 15 (.pick z11 bT z14),mI 16 15,d199,d187,uI 19 16 (.bint .gtr z18 (cI 3)),d216] (.cond z20 d239 .skip)) d232),21,[.tmp 2]⟩
theorem ok277 : compF prog 277 = some cf277:=by kernel_rfl
theorem ac277 : acB prog 277 = true:=by decide +kernel
def cf278 : CF:=⟨sO [d102] (.seq (.block 0 (sO [mI 10 0,d81,qI 12 (.bint .eql z11 (cI 0)),mI 9 12] (.cond z9 (sO [qI 2 (.mv (cI 4))] .ret) (sO [d19,qI 15 (.len z14),qI 16 (.bint .gtr z15 (cI 10)),mI 13 16] (.cond z13 (sO [qI 2 (.mv (cI 9))] .ret) .skip))))) (sO [qI 3 (.mv (cI (-1)))] (.seq (sO [mI 17 0,d92,d145] (.block 1 (.loop (sO [d228] (.seq (.cond z20 .skip (.exit 1)) (.seq (.block 2 (sO [qI 21 (.iaddr 5 z17 z19),qI 22 (.loadN 5 z21),qI 5 (.alloc [.sc (.int .i64 0),.sc (.int .i64 0),.sc (.int .i64 0),.sc (.bool false),.sc (.int .i64 0)]),nI (.store 5 z5 z22)] (.seq (sO [qI 23 (.loadN 5 z5),qI 24 (.call 383 [z23]),mI 6 24] (sO [mI 25 6,qI 26 (.bint .neq z25 (cI 0))] (.cond z26 (sO [mI 27 6,mI 2 27] .ret) .skip))) (sO [qI 29 d50,qI 30 (.loadN 3 z29),qI 31 (.call 384 [z30]),mI 28 31,qI 32 (.ext z28 0),qI 33 (.ext z28 1),mI 7 32,mI 8 33] (.seq (sO [mI 34 7,mI 35 3,qI 36 (.bint .leq z34 z35)] (.cond z36 (sO [qI 2 (.mv (cI 25))] .ret) .skip)) (.ops [mI 37 7,mI 3 37])))))) (.ops [qI 38 d188,mI 19 38]))))))) d232))),39,[.tmp 2]⟩
theorem ok278 : compF prog 278 = some cf278:=by kernel_rfl
theorem ac278 : acB prog 278 = true:=by decide +kernel
def cf279 : CF:=⟨sO [d102] (.seq (sO [d2,d74,qI 9 (.bint .gtr z8 (cI 8))] d271) (.seq (sO [mI 10 0,d81,d155] (.block 0 (.loop (sO [d230] (.seq d222 (.seq (.block 1 (sO [qI 14 (.iaddr 5 z10 z12),qI 15 (.loadN 5 z14),qI 4 (.alloc [.sc (.int .i64 0),.sc (.int .i64 0),.sc (.int .i64 0),.sc (.int .i64 0),.sc (.bool false)]),nI (.store 5 z4 z15)] (.seq (sO [qI 17 d49,qI 18 (.loadN 3 z17),qI 19 (.call 384 [z18]),mI 16 19,qI 20 (.ext z16 0),qI 21 (.ext z16 1),mI 5 20,mI 6 21] (sO [mI 22 6,qI 23 (.bint .neq z22 (cI 0))] (.cond z23 (sO [mI 24 6,mI 2 24] .ret) .skip))) (sO [qI 25 d58,d130,qI 27 (.bint .lss z26 (cI 1)),mI 28 27,uI 29 28 d58,uI 30 28 (.load1 z29),uI 31 28 (.bint .gtr z30 (cI 6)),qI 32 (.pick z28 bT z31)] (.cond z32 d231 .skip))))) (.ops [qI 33 d197,mI 12 33]))))))) d232)),34,[.tmp 2]⟩
theorem ok279 : compF prog 279 = some cf279:=by kernel_rfl
theorem ac279 : acB prog 279 = true:=by decide +kernel
def cf280 : CF:=⟨sO [d102] (.seq (sO [d2,d74,qI 9 (.bint .gtr z8 (cI 4))] d271) (.seq (sO [mI 10 0,d81,d155] (.block 0 (.loop (sO [d230] (.seq d222 (.seq (.block 1 (sO [qI 14 (.iaddr 2 z10 z12),d177,qI 4 d269,nI (.store 2 z4 z15)] (sO [qI 16 d53,qI 17 (.call 385 [z16]),mI 5 17] (sO [mI 18 5,d244] (.cond z19 (sO [mI 20 5,mI 2 20] .ret) .skip))))) (.ops [qI 21 d197,mI 12 21]))))))) (.seq (sO [mI 22 0,qI 23 (.len z22),mI 6 23] (sO [mI 24 6,qI 25 (.bint .gtr z24 (cI 0)),mI 26 25,vI 27 26 d3,vI 28 26 (.mv z6),vI 29 26 (.bint .sub z28 (cI 1)),vI 30 26 (.iaddr 2 z27 z29),vI 31 26 (.loadN 2 z30),vI 32 26 (.call 386 [z31]),qI 33 (.pick z26 z32 bF)] (.cond z33 (sO [qI 2 (.mv (cI 3))] .ret) .skip))) d232))),34,[.tmp 2]⟩
theorem ok280 : compF prog 280 = some cf280:=by kernel_rfl
theorem ac280 : acB prog 280 = true:=by decide +kernel
def cf281 : CF:=⟨sO [d70,d102] (sO [qI 3 d35,d93,qI 5 (.bint .add z4 (cI 1)),qI 6 (.bint .mul (cI 12) z5),qI 8 d45,d86,qI 12 d52,d146,⟨some 7,none,.call 387 [],[.load1 z12,.load1 z8,.load1 z3]⟩,qI 10 (.idxA 7 1 z7 z9),qI 11 (.bint .add z6 z10),qI 14 (.bint .add z11 z13),mI 2 14] .ret),15,[.tmp 2]⟩
theorem ok281 : compF prog 281 = some cf281:=by kernel_rfl
theorem ac281 : acB prog 281 = true:=by decide +kernel
def cf282 : CF:=⟨d320,19,[.tmp 4]⟩
theorem ok282 : compF prog 282 = some cf282:=by kernel_rfl
theorem ac282 : acB prog 282 = true:=by decide +kernel
def cf283 : CF:=⟨d320,19,[.tmp 4]⟩
theorem ok283 : compF prog 283 = some cf283:=by kernel_rfl
theorem ac283 : acB prog 283 = true:=by decide +kernel
def cf284 : CF:=⟨sO [d70,d66] (sO [qI 3 d36,d93,mI 2 4] .ret),5,[.tmp 2]⟩
theorem ok284 : compF prog 284 = some cf284:=by kernel_rfl
theorem ac284 : acB prog 284 = true:=by decide +kernel
def cf285 : CF:=⟨sO [d71,d72,d103] (.seq (sO [qI 5 d41,d89,qI 7 (.bint .neq z6 (cI 4))] (.cond z7 (sO [qI 4 (.mv (cI 11))] .ret) .skip)) (.seq (sO [qI 8 d44,d86,d241,d25,uI 12 11 d44,d198,uI 14 11 d56,uI 15 11 d43,uI 16 11 (.load1 z15),uI 17 11 d42,uI 18 11 (.load1 z17),uI 19 11 d55,uI 20 11 (.load1 z19),⟨some 21,some (some 11,false),.call 286 [z14,z16,z18,z20],[.load1 z12]⟩,uI 22 11 (.len z21),uI 23 11 (.bint .geq z13 z22),qI 24 (.pick z11 bT z23)] (.cond z24 d235 .skip)) d236)),25,[.tmp 4]⟩
theorem ok285 : compF prog 285 = some cf285:=by kernel_rfl
theorem ac285 : acB prog 285 = true:=by decide +kernel
def cf286 : CF:=⟨sO [qI 4 (.box z0),d263] (.seq (sO [mI 9 1,d241,d25,uI 12 11 d5,uI 13 11 d58,uI 14 11 (.load1 z13),uI 15 11 (.len z14),uI 16 11 (.bint .geq z12 z15),qI 17 (.pick z11 bT z16),mI 18 17,uI 19 18 d8,uI 20 18 (.bint .lss z19 (cI 0)),qI 21 (.pick z18 bT z20),mI 22 21,uI 23 22 d8,uI 24 22 d58,uI 25 22 (.load1 z24),uI 26 22 d5,uI 27 22 (.iaddr 22 z25 z26),uI 28 22 (.faddr 21 z27),uI 29 22 (.load1 z28),uI 30 22 (.len z29),uI 31 22 (.bint .geq z23 z30),qI 32 (.pick z22 bT z31),mI 33 32,uI 34 33 (.mv z3),uI 35 33 (.bint .lss z34 (cI 0)),qI 36 (.pick z33 bT z35),mI 37 36,uI 38 37 (.mv z3),uI 39 37 d58,uI 40 37 (.load1 z39),uI 41 37 d5,uI 42 37 (.iaddr 22 z40 z41),uI 43 37 (.faddr 21 z42),uI 44 37 (.load1 z43),uI 45 37 d8,uI 46 37 (.iaddr 2 z44 z45),uI 47 37 (.faddr 1 z46),uI 48 37 (.load1 z47),uI 49 37 (.len z48),uI 50 37 (.bint .geq z38 z49),qI 51 (.pick z37 bT z50)] (.cond z51 (sO [d263] .ret) .skip)) (sO [qI 52 d58,d165,mI 54 1,qI 55 (.iaddr 22 z53 z54),qI 56 (.faddr 21 z55),d139,mI 58 2,qI 59 (.iaddr 2 z57 z58),qI 60 (.faddr 1 z59),qI 61 (.load1 z60),mI 62 3,qI 63 (.iaddr 2 z61 z62),qI 64 (.faddr 0 z63),qI 65 d33,mI 8 65] .ret)),66,[.tmp 8]⟩
theorem ok286 : compF prog 286 = some cf286:=by kernel_rfl
theorem ac286 : acB prog 286 = true:=by decide +kernel
def cf288 : CF:=⟨sO [d70,d311] (sO [qI 3 d37,d93,qI 6 (.faddr 6 z1),d85,qI 9 d59,d98,⟨some 5,none,.call 388 [z4],[.load1 z9,.load1 z6]⟩,qI 12 d37,⟨some 8,none,.call 389 [z7],[.load1 z9]⟩,qI 11 (.call 390 [z10]),nI (.store 1 z12 z5),qI 13 (.faddr 6 z1),nI (.store 1 z13 z8),qI 14 d59,nI (.store 1 z14 z11)] (sO [qI 15 d61,nI (.store 13 z2 z15)] .ret)),16,[.cellN 13 2]⟩
theorem ok288 : compF prog 288 = some cf288:=by kernel_rfl
theorem ac288 : acB prog 288 = true:=by decide +kernel
def cf290 : CF:=⟨sO [d71,d64] (sO [mI 5 1,qI 6 (.faddr 10 z2),d85,d74,qI 9 (.bint .geq z5 z8),d12,uI 11 10 (.faddr 10 z2),uI 12 10 (.load1 z11),uI 13 10 d5,uI 14 10 (.iaddr 2 z12 z13),uI 15 10 (.loadN 2 z14),uI 16 10 (.build [.sc (.str ⟨#[]⟩),.sc (.int .i64 0)] []),uI 17 10 (.bagg false [.str,.int] z15 z16),qI 18 (.pick z10 bT z17),mI 4 18] .ret),19,[.tmp 4]⟩
theorem ok290 : compF prog 290 = some cf290:=by kernel_rfl
theorem ac290 : acB prog 290 = true:=by decide +kernel
def cf300 : CF:=⟨sO [d103] (.seq (sO [d0,d73,d104] (.block 0 (.loop (sO [d206] (.seq d213 (.seq (.block 1 (sO [mI 10 8,mI 5 10] (sO [d20,d21,mI 13 5,qI 14 (.iaddr 22 z12 z13),qI 15 (.loadN 22 z14),d214] d267))) d268)))))) d246),19,[.tmp 4]⟩
theorem ok300 : compF prog 300 = some cf300:=by kernel_rfl
theorem ac300 : acB prog 300 = true:=by decide +kernel
def cf301 : CF:=⟨sO [d64] (sO [d94,d0,qI 8 d28,⟨some 7,none,.call 302 [z5,z6],[.load1 z2]⟩,qI 9 (.call 155 [z7,cI 0,z8]),mI 4 9] .ret),10,[.tmp 4]⟩
theorem ok301 : compF prog 301 = some cf301:=by kernel_rfl
theorem ac301 : acB prog 301 = true:=by decide +kernel
def cf310 : CF:=⟨sO [d104,qI 9 d29] (.seq (sO [mI 10 0,mI 11 2,qI 12 (.iaddr 1 z10 z11),d146,d19,mI 15 1,qI 16 (.iaddr 1 z14 z15),d156,qI 18 (.call 127 [z13,z17])] (.cond z18 (sO [mI 19 3,qI 20 (.nilc z19),d158,qI 22 (.bint .add z21 (cI 1)),qI 23 (.nilc z19),d192] (sO [mI 24 2,mI 25 1,mI 8 24,mI 9 25] .ret)) .skip)) (sO [mI 26 1,mI 27 2,mI 8 26,mI 9 27] .ret)),28,[.tmp 8,.tmp 9]⟩
theorem ok310 : compF prog 310 = some cf310:=by kernel_rfl
theorem ac310 : acB prog 310 = true:=by decide +kernel
def cf311 : CF:=⟨sO [qI 2 (.mv (.const .nilFunc))] (sO [mI 4 0,qI 5 (.call 401 [z4]),mI 3 5] (.block 0 (.loop (.block 1 (.block 2 (sO [mI 8 0,qI 9 (.call 24 [z8,.const (.string ⟨#[43]⟩)]),mI 7 9] (.cond z7 (.ops [mI 10 3,mI 11 0,qI 12 (.call 401 [z11]),qI 13 (.call 64 [z10,z12,.func 402]),mI 3 13]) (sO [mI 15 0,qI 16 (.call 24 [z15,.const (.string ⟨#[45]⟩)]),mI 14 16] (.cond z14 (.ops [mI 17 3,mI 18 0,qI 19 (.call 401 [z18]),qI 20 (.call 64 [z17,z19,.func 403]),mI 3 20]) (sO [mI 6 3,mI 2 6] .ret)))))))))),21,[.tmp 2]⟩
theorem ok311 : compF prog 311 = some cf311:=by kernel_rfl
theorem ac311 : acB prog 311 = true:=by decide +kernel
def cf312 : CF:=⟨sO [qI 6 (.mv bF)] (.seq (sO [mI 8 0,mI 9 1,qI 10 (.call 60 [z8,z9]),qI 11 (.not z10)] (.cond z11 (sO [qI 6 (.mv bF)] .ret) .skip)) (sO [mI 12 0,qI 13 (.nilc z12),qI 14 (.faddr 0 z13),qI 15 (.load1 z14),mI 16 0,qI 17 (.nilc z16),qI 18 (.faddr 1 z17),qI 19 (.load1 z18),qI 20 (.bint .add z19 (cI 1)),qI 21 (.iaddr 7 z15 z20),qI 22 (.loadN 7 z21),qI 7 (.alloc [.sc (.int .i64 0),.sc (.str ⟨#[]⟩),.sc (.int .i64 0),.sc (.str ⟨#[]⟩),.sc (.int .i64 0),.sc (.int .i64 0),.sc (.bool false)]),nI (.store 7 z7 z22)] (.seq (sO [qI 23 (.faddr 0 z7),qI 24 (.load1 z23),qI 25 (.bint .neq z24 (cI 4)),mI 26 25,uI 27 26 (.faddr 1 z7),uI 28 26 (.load1 z27),uI 29 26 (.mv z2),uI 30 26 (.bstr .neq z28 z29),qI 31 (.pick z26 bT z30),mI 32 31,uI 33 32 (.faddr 6 z7),uI 34 32 (.load1 z33),uI 35 32 (.not z34),qI 36 (.pick z32 bT z35)] (.cond z36 (sO [qI 6 (.mv bF)] .ret) .skip)) (sO [mI 37 0,qI 38 (.nilc z37),qI 39 (.faddr 1 z38),qI 40 (.load1 z39),qI 41 (.bint .add z40 (cI 2)),qI 42 (.nilc z37),qI 43 (.faddr 1 z42),nI (.store 1 z43 z41)] (sO [qI 6 (.mv bT)] .ret))))),44,[.tmp 6]⟩
theorem ok312 : compF prog 312 = some cf312:=by kernel_rfl
theorem ac312 : acB prog 312 = true:=by decide +kernel
def cf313 : CF:=⟨sO [qI 4 (.mv bF)] (sO [mI 5 0,mI 6 1,qI 7 (.bint .eql z5 z6),mI 4 7] .ret),8,[.tmp 4]⟩
theorem ok313 : compF prog 313 = some cf313:=by kernel_rfl
theorem ac313 : acB prog 313 = true:=by decide +kernel
def cf314 : CF:=⟨sO [d64] (sO [d4,d9,qI 7 (.bint .neq z5 z6),mI 4 7] .ret),8,[.tmp 4]⟩
theorem ok314 : compF prog 314 = some cf314:=by kernel_rfl
theorem ac314 : acB prog 314 = true:=by decide +kernel
def cf315 : CF:=⟨sO [d64] (sO [d4,d9,qI 7 (.bint .leq z5 z6),mI 4 7] .ret),8,[.tmp 4]⟩
theorem ok315 : compF prog 315 = some cf315:=by kernel_rfl
theorem ac315 : acB prog 315 = true:=by decide +kernel
def cf316 : CF:=⟨sO [d64] (sO [d4,d9,qI 7 (.bint .geq z5 z6),mI 4 7] .ret),8,[.tmp 4]⟩
theorem ok316 : compF prog 316 = some cf316:=by kernel_rfl
theorem ac316 : acB prog 316 = true:=by decide +kernel
def cf317 : CF:=⟨sO [qI 4 (.mv bF)] (sO [mI 5 0,mI 6 1,qI 7 (.bint .lss z5 z6),mI 4 7] .ret),8,[.tmp 4]⟩
theorem ok317 : compF prog 317 = some cf317:=by kernel_rfl
theorem ac317 : acB prog 317 = true:=by decide +kernel
def cf318 : CF:=⟨sO [d64] (sO [d4,d9,qI 7 (.bint .gtr z5 z6),mI 4 7] .ret),8,[.tmp 4]⟩
theorem ok318 : compF prog 318 = some cf318:=by kernel_rfl
theorem ac318 : acB prog 318 = true:=by decide +kernel
def cf319 : CF:=⟨sO [qI 7 (.mv (cI 0))] (sO [qI 8 (.load1 z3),mI 9 1,mI 10 2,qI 11 (.callv z8 [z9,z10]),qI 12 (.call 66 [z11]),mI 7 12] .ret),13,[.tmp 7]⟩
theorem ok319 : compF prog 319 = some cf319:=by kernel_rfl
theorem ac319 : acB prog 319 = true:=by decide +kernel
def cf325 : CF:=⟨sO [d71,d72,d307,qI 5 (.alloc [.sc (.bool false)])] (.seq (sO [qI 8 d46,qI 9 d276,qI 10 (.bagg false [.int,.int] z8 z9)] (.cond z10 (sO [qI 11 d301,nI (.store 7 z4 z11),nI (.store 1 z5 bF)] .ret) .skip)) (.seq (sO [qI 12 (.call 260 [z2])] (.block 0 (.range z12 #[13,14] (.seq (.region 4 #[⟨some 6,.alloc 279,0,"score.go:107",#[],none⟩,⟨none,.store 279 (.tmp 6) (.tmp 13),0,"score.go:107",#[⟨0,.data⟩,⟨0,.phase⟩],none⟩] false) (.region 5 #[⟨some 7,.assign (.tmp 14),351,"score.go:107",#[],none⟩] false)) (.block 1 (.seq (.region 6 #[⟨some 15,.move (.tmp 7),351,"score.go:108",#[],none⟩,⟨some 16,.nilCheck (.tmp 15),0,"score.go:108",#[⟨0,.data⟩],none⟩,⟨some 17,.load 74 (.tmp 16),74,"score.go:108",#[⟨1,.data⟩],none⟩,⟨some 18,.load 74 (.tmp 3),74,"score.go:108",#[],none⟩,⟨some 19,.binOp .eql 74 (.tmp 17) (.tmp 18) 74,4,"score.go:108",#[⟨2,.data⟩,⟨3,.data⟩],none⟩] true) (.cond (.tmp 19) (.seq (.region 7 #[⟨some 20,.load 279 (.tmp 6),279,"score.go:109",#[],none⟩,⟨none,.store 279 (.tmp 4) (.tmp 20),0,"score.go:109",#[⟨0,.data⟩,⟨0,.phase⟩],none⟩,⟨none,.store 4 (.tmp 5) (.const (.bool true)),0,"score.go:109",#[⟨1,.chain⟩,⟨0,.phase⟩,⟨1,.phase⟩],none⟩] false) .ret) .skip))) (sO [qI 6 (.alloc [.sc (.int .i64 0),.sc (.int .i64 0),.sc (.int .i64 0),.sc (.int .i64 0),.sc (.int .i64 0),.sc (.int .i64 0),.sc (.int .i64 0)]),nI (.store 7 z6 z13)] (.ops [mI 7 14])) (.block 1 (sO [mI 15 7,qI 16 (.nilc z15),qI 17 (.loadN 2 z16),qI 18 (.loadN 2 z3),qI 19 (.bagg false [.int,.int] z17 z18)] (.cond z19 (sO [qI 20 (.loadN 7 z6),nI (.store 7 z4 z20),nI (.store 1 z5 bT)] .ret) .skip)))))) (sO [qI 21 d301,nI (.store 7 z4 z21),nI (.store 1 z5 bF)] .ret))),22,[.cellN 7 4,.cell1 5]⟩
theorem ok325 : compF prog 325 = some cf325:=by kernel_rfl
theorem ac325 : acB prog 325 = true:=by decide +kernel
def cf341 : CF:=⟨sO [d70,d102,d105] (.seq (sO [qI 5 (.loadN 2 z1),qI 6 (.call 277 [z5]),mI 4 6] d287) (sO [qI 10 (.loadN 2 z1),qI 11 (.call 424 [z10]),mI 2 11,d105] .ret)),12,[.tmp 2,.tmp 3]⟩
theorem ok341 : compF prog 341 = some cf341:=by kernel_rfl
theorem ac341 : acB prog 341 = true:=by decide +kernel
def cf368 : CF:=⟨sO [d70,d66] (.seq (sO [qI 7 d35,qI 8 (.loadN 6 z7),qI 9 (.build [.sc (.int .i64 0),.sc (.int .i64 0),.sc (.int .i64 0),.sc (.int .i64 0),.sc (.int .i64 0),.sc (.int .i64 0)] []),qI 10 (.bagg false [.int,.int,.int,.int,.int,.int] z8 z9)] (.cond z10 (sO [qI 2 (.mv bT)] .ret) .skip)) (sO [d105,d103] (.seq (sO [qI 11 d35,d171,d121] (.block 0 (.loop (sO [qI 14 (.bint .lss z13 (cI 6))] (.seq d218 (.seq (.block 1 (sO [d24,qI 16 (.idxA 6 1 z12 z13),d15,mI 6 16] (.block 2 (sO [mI 18 6,qI 19 (.bint .lss z18 (cI 0)),mI 20 19,uI 21 20 (.mv z6),uI 22 20 (.bint .gtr z21 (cI 64)),qI 23 (.pick z20 bT z22),mI 24 23,uI 25 24 (.mv z6),uI 26 24 (.bint .gtr z25 (cI 0)),uI 27 24 (.mv z26),vI 28 27 (.mv z5),vI 29 27 (.mv z4),vI 30 27 (.bint .neq z28 z29),uI 31 24 (.pick z27 z30 bF),qI 32 (.pick z24 bT z31),mI 17 32] (.cond z17 (sO [d66] .ret) (sO [mI 34 6,qI 35 (.bint .gtr z34 (cI 0)),mI 33 35] (.cond z33 (.ops [mI 36 3,mI 37 6,qI 38 (.bint .add z36 z37),mI 39 4,qI 40 (.bint .add z39 (cI 1)),mI 3 38,mI 4 40]) .skip))))))) (.ops [qI 41 d185,mI 13 41]))))))) (sO [mI 42 3,qI 43 d45,d150,qI 45 (.bint .eql z42 z44),mI 46 45,vI 47 46 (.mv z4),vI 48 46 (.bint .geq z47 (cI 2)),qI 49 (.pick z46 z48 bF),mI 2 49] .ret)))),50,[.tmp 2]⟩
theorem ok368 : compF prog 368 = some cf368:=by kernel_rfl
theorem ac368 : acB prog 368 = true:=by decide +kernel
def cf370 : CF:=⟨sO [d64] (.seq d293 (.seq (sO [d14,d84,d121] (.block 0 (.loop (sO [d225] (.seq d218 (.seq (.block 1 (sO [d24,d15] (sO [d16,d17,qI 18 (.iaddr 4 z16 z17),qI 19 (.loadN 4 z18),d18,mI 21 5,qI 22 (.iaddr 4 z20 z21),qI 23 (.loadN 4 z22),qI 24 (.bagg true [.int,.int,.int,.int] z19 z23)] d265))) d273)))))) d205)),26,[.tmp 4]⟩
theorem ok370 : compF prog 370 = some cf370:=by kernel_rfl
theorem ac370 : acB prog 370 = true:=by decide +kernel
def cf371 : CF:=⟨sO [qI 4 (.mv (cI 0))] (.seq (sO [mI 6 0,qI 7 (.len z6),qI 8 (.mv (cI 0))] (.block 0 (.loop (sO [qI 9 (.bint .lss z8 z7)] (.seq (.cond z9 .skip (.exit 0)) (.seq (.block 1 (sO [mI 10 8,mI 5 10] (sO [mI 11 1,mI 12 0,mI 13 5,qI 14 (.iaddr 1 z12 z13),qI 15 (.load1 z14),qI 16 (.callv z11 [z15])] (.cond z16 (sO [mI 17 5,mI 4 17] .ret) .skip)))) (.ops [qI 18 (.bint .add z8 (cI 1)),mI 8 18]))))))) (sO [qI 4 (.mv (cI (-1)))] .ret)),19,[.tmp 4]⟩
theorem ok371 : compF prog 371 = some cf371:=by kernel_rfl
theorem ac371 : acB prog 371 = true:=by decide +kernel
def cf372 : CF:=⟨sO [d105] (.seq (sO [qI 11 d26,d99,qI 13 (.faddr 2 z12),d112,qI 15 (.len z14),d113] (.block 0 (.loop (sO [qI 17 (.bint .lss z16 z15)] (.seq (.cond z17 .skip d10) (.seq (.block 1 (sO [mI 18 16,mI 4 18] (.seq (sO [mI 19 0,mI 20 4,qI 21 (.build [.sc (.int .i64 0),.sc (.int .i64 0),.sc (.int .i64 0),.sc (.int .i64 0),.sc (.int .i64 0),.sc (.int .i64 0),.sc (.int .i64 0)] [(0,(1,cI 1)),(1,(1,z20))]),qI 22 d26,qI 23 (.nilc z22),qI 24 (.faddr 2 z23),d157,mI 26 4,qI 27 (.iaddr 6 z25 z26),qI 28 (.faddr 0 z27),qI 29 (.callv z19 [z21,z28]),d83] (.cond z30 .ret .skip)) (sO [qI 31 d26,qI 32 (.nilc z31),qI 33 (.faddr 2 z32),qI 34 (.load1 z33),mI 35 4,qI 36 (.iaddr 6 z34 z35),qI 37 (.faddr 5 z36),d133,qI 39 (.len z38),qI 40 d29] (.block 2 (.loop (sO [qI 41 (.bint .lss z40 z39)] (.seq (.cond z41 .skip d11) (.seq (.block 3 (sO [mI 42 40,mI 5 42] (.seq (sO [mI 43 0,mI 44 3,qI 45 (.build [.sc (.int .i64 0),.sc (.int .i64 0),.sc (.int .i64 0),.sc (.int .i64 0),.sc (.int .i64 0),.sc (.int .i64 0),.sc (.int .i64 0)] [(0,(1,cI 2)),(2,(1,z44))]),qI 46 d26,qI 47 (.nilc z46),qI 48 (.faddr 2 z47),d117,mI 50 4,qI 51 (.iaddr 6 z49 z50),qI 52 (.faddr 5 z51),d165,mI 54 5,qI 55 (.iaddr 3 z53 z54),qI 56 (.faddr 0 z55),qI 57 (.callv z43 [z45,z56]),qI 58 (.not z57)] (.cond z58 .ret .skip)) (.ops [mI 59 3,qI 60 (.bint .add z59 (cI 1)),mI 3 60])))) (.ops [qI 61 (.bint .add z40 (cI 1)),mI 40 61])))))))))) (.ops [qI 62 d180,mI 16 62]))))))) (.seq (sO [qI 63 d26,qI 64 (.nilc z63),qI 65 (.faddr 3 z64),d141,qI 67 (.len z66),qI 68 d29] (.block 4 (.loop (sO [qI 69 (.bint .lss z68 z67)] (.seq (.cond z69 .skip d23) (.seq (.block 5 (sO [mI 70 68,mI 6 70] (.seq (sO [mI 71 0,mI 72 6,qI 73 (.build [.sc (.int .i64 0),.sc (.int .i64 0),.sc (.int .i64 0),.sc (.int .i64 0),.sc (.int .i64 0),.sc (.int .i64 0),.sc (.int .i64 0)] [(0,(1,cI 3)),(3,(1,z72))]),qI 74 d26,qI 75 (.nilc z74),qI 76 (.faddr 3 z75),qI 77 (.load1 z76),mI 78 6,qI 79 (.iaddr 22 z77 z78),qI 80 (.faddr 0 z79),qI 81 (.callv z71 [z73,z80]),qI 82 (.not z81)] (.cond z82 .ret .skip)) (sO [qI 83 d26,qI 84 (.nilc z83),qI 85 (.faddr 3 z84),qI 86 (.load1 z85),mI 87 6,qI 88 (.iaddr 22 z86 z87),qI 89 (.faddr 21 z88),qI 90 (.load1 z89),qI 91 (.len z90),qI 92 d29] (.block 6 (.loop (sO [qI 93 (.bint .lss z92 z91)] (.seq (.cond z93 .skip (.exit 6)) (.seq (.block 7 (sO [mI 94 92,mI 7 94] (sO [qI 95 d26,qI 96 (.nilc z95),qI 97 (.faddr 3 z96),qI 98 (.load1 z97),mI 99 6,qI 100 (.iaddr 22 z98 z99),qI 101 (.faddr 21 z100),qI 102 (.load1 z101),mI 103 7,qI 104 (.iaddr 2 z102 z103),qI 105 (.faddr 1 z104),qI 106 (.load1 z105),qI 107 (.len z106),qI 108 d29] (.block 8 (.loop (sO [qI 109 (.bint .lss z108 z107)] (.seq (.cond z109 .skip (.exit 8)) (.seq (.block 9 (sO [mI 110 108,mI 8 110] (sO [qI 111 d26,qI 112 (.nilc z111),qI 113 (.faddr 3 z112),qI 114 (.load1 z113),mI 115 6,qI 116 (.iaddr 22 z114 z115),qI 117 (.faddr 21 z116),qI 118 (.load1 z117),mI 119 7,qI 120 (.iaddr 2 z118 z119),qI 121 (.faddr 1 z120),qI 122 (.load1 z121),mI 123 8,qI 124 (.iaddr 2 z122 z123),qI 125 (.faddr 0 z124),qI 126 (.load1 z125),qI 127 (.len z126),qI 128 d29] (.block 10 (.loop (sO [qI 129 (.bint .lss z128 z127)] (.seq (.cond z129 .skip (.exit 10)) (.seq (.block 11 (sO [mI 130 128,mI 9 130] (sO [mI 131 0,mI 132 6,mI 133 7,mI 134 8,mI 135 9,qI 136 (.build [.sc (.int .i64 0),.sc (.int .i64 0),.sc (.int .i64 0),.sc (.int .i64 0),.sc (.int .i64 0),.sc (.int .i64 0),.sc (.int .i64 0)] [(0,(1,cI 4)),(3,(1,z132)),(2,(1,z133)),(4,(1,z134)),(5,(1,z135))]),qI 137 d26,qI 138 (.nilc z137),qI 139 (.faddr 3 z138),qI 140 (.load1 z139),mI 141 6,qI 142 (.iaddr 22 z140 z141),qI 143 (.faddr 21 z142),qI 144 (.load1 z143),mI 145 7,qI 146 (.iaddr 2 z144 z145),qI 147 (.faddr 1 z146),qI 148 (.load1 z147),mI 149 8,qI 150 (.iaddr 2 z148 z149),qI 151 (.faddr 0 z150),qI 152 (.load1 z151),mI 153 9,qI 154 (.iaddr 13 z152 z153),qI 155 (.faddr 0 z154),qI 156 (.callv z131 [z136,z155]),qI 157 (.not z156)] (.cond z157 .ret .skip)))) (.ops [qI 158 (.bint .add z128 (cI 1)),mI 128 158]))))))))) (.ops [qI 159 (.bint .add z108 (cI 1)),mI 108 159]))))))))) (.ops [qI 160 (.bint .add z92 (cI 1)),mI 92 160])))))))))) (.ops [qI 161 (.bint .add z68 (cI 1)),mI 68 161]))))))) (sO [qI 162 d26,qI 163 (.nilc z162),qI 164 (.faddr 4 z163),qI 165 (.load1 z164),qI 166 (.len z165),qI 167 d29] (.block 12 (.loop (sO [qI 168 (.bint .lss z167 z166)] (.seq (.cond z168 .skip (.exit 12)) (.seq (.block 13 (sO [mI 169 167,mI 10 169] (sO [mI 170 0,mI 171 10,qI 172 (.build [.sc (.int .i64 0),.sc (.int .i64 0),.sc (.int .i64 0),.sc (.int .i64 0),.sc (.int .i64 0),.sc (.int .i64 0),.sc (.int .i64 0)] [(0,(1,cI 5)),(6,(1,z171))]),qI 173 d26,qI 174 (.nilc z173),qI 175 (.faddr 4 z174),qI 176 (.load1 z175),mI 177 10,qI 178 (.iaddr 7 z176 z177),qI 179 (.faddr 0 z178),qI 180 (.callv z170 [z172,z179]),qI 181 (.not z180)] (.cond z181 .ret .skip)))) (.ops [qI 182 (.bint .add z167 (cI 1)),mI 167 182]))))))))),183,[]⟩
theorem ok372 : compF prog 372 = some cf372:=by kernel_rfl
theorem ac372 : acB prog 372 = true:=by decide +kernel
def cf373 : CF:=⟨sO [qI 0 (.alloc [.sc (.str ⟨#[]⟩),.sc (.int .u8 0),.sc (.int .i64 0),.sc (.int .i64 0),.sc (.int .i64 0),.sc (.int .i64 0),.sc (.int .i64 0),.sc (.str ⟨#[]⟩),.sc (.int .u8 0),.sc (.int .i64 0),.sc (.int .i64 0),.sc (.int .i64 0),.sc (.int .i64 0),.sc (.int .i64 0),.sc (.str ⟨#[]⟩),.sc (.int .u8 0),.sc (.int .i64 0),.sc (.int .i64 0),.sc (.int .i64 0),.sc (.int .i64 0),.sc (.int .i64 0),.sc (.str ⟨#[]⟩),.sc (.int .u8 0),.sc (.int .i64 0),.sc (.int .i64 0),.sc (.int .i64 0),.sc (.int .i64 0),.sc (.int .i64 0),.sc (.str ⟨#[]⟩),.sc (.int .u8 0),.sc (.int .i64 0),.sc (.int .i64 0),.sc (.int .i64 0),.sc (.int .i64 0),.sc (.int .i64 0),.sc (.str ⟨#[]⟩),.sc (.int .u8 0),.sc (.int .i64 0),.sc (.int .i64 0),.sc (.int .i64 0),.sc (.int .i64 0),.sc (.int .i64 0),.sc (.str ⟨#[]⟩),.sc (.int .u8 0),.sc (.int .i64 0),.sc (.int .i64 0),.sc (.int .i64 0),.sc (.int .i64 0),.sc (.int .i64 0),.sc (.str ⟨#[]⟩),.sc (.int .u8 0),.sc (.int .i64 0),.sc (.int .i64 0),.sc (.int .i64 0),.sc (.int .i64 0),.sc (.int .i64 0),.sc (.str ⟨#[]⟩),.sc (.int .u8 0),.sc (.int .i64 0),.sc (.int .i64 0),.sc (.int .i64 0),.sc (.int .i64 0),.sc (.int .i64 0)])] (sO [qI 1 (.build [.sc (.str ⟨#[]⟩),.sc (.int .u8 0),.sc (.int .i64 0),.sc (.int .i64 0),.sc (.int .i64 0),.sc (.int .i64 0),.sc (.int .i64 0)] [(0,(1,.const (.string ⟨#[116,114,101,98,108,101]⟩))),(1,(1,.const (.int .u8 71))),(2,(1,cI (-2))),(3,(1,cI 0)),(4,(1,cI 34)),(5,(1,cI (-1))),(6,(1,cI (-3)))]),qI 2 (.build [.sc (.str ⟨#[]⟩),.sc (.int .u8 0),.sc (.int .i64 0),.sc (.int .i64 0),.sc (.int .i64 0),.sc (.int .i64 0),.sc (.int .i64 0)] [(0,(1,.const (.string ⟨#[98,97,115,115]⟩))),(1,(1,.const (.int .u8 70))),(2,(1,cI 2)),(3,(1,cI 0)),(4,(1,cI 22)),(5,(1,cI (-3))),(6,(1,cI (-5)))]),qI 3 (.build [.sc (.str ⟨#[]⟩),.sc (.int .u8 0),.sc (.int .i64 0),.sc (.int .i64 0),.sc (.int .i64 0),.sc (.int .i64 0),.sc (.int .i64 0)] [(0,(1,.const (.string ⟨#[97,108,116,111]⟩))),(1,(1,.const (.int .u8 67))),(2,(1,cI 0)),(3,(1,cI 0)),(4,(1,cI 28)),(5,(1,cI (-2))),(6,(1,cI (-4)))]),qI 4 (.build [.sc (.str ⟨#[]⟩),.sc (.int .u8 0),.sc (.int .i64 0),.sc (.int .i64 0),.sc (.int .i64 0),.sc (.int .i64 0),.sc (.int .i64 0)] [(0,(1,.const (.string ⟨#[116,101,110,111,114]⟩))),(1,(1,.const (.int .u8 67))),(2,(1,cI 2)),(3,(1,cI 0)),(4,(1,cI 26)),(5,(1,cI (-2))),(6,(1,cI (-2)))]),qI 5 (.build [.sc (.str ⟨#[]⟩),.sc (.int .u8 0),.sc (.int .i64 0),.sc (.int .i64 0),.sc (.int .i64 0),.sc (.int .i64 0),.sc (.int .i64 0)] [(0,(1,.const (.string ⟨#[115,111,112,114,97,110,111]⟩))),(1,(1,.const (.int .u8 67))),(2,(1,cI (-4))),(3,(1,cI 0)),(4,(1,cI 32)),(5,(1,cI (-2))),(6,(1,cI (-3)))]),qI 6 (.build [.sc (.str ⟨#[]⟩),.sc (.int .u8 0),.sc (.int .i64 0),.sc (.int .i64 0),.sc (.int .i64 0),.sc (.int .i64 0),.sc (.int .i64 0)] [(0,(1,.const (.string ⟨#[109,101,122,122,111,115,111,112,114,97,110,111]⟩))),(1,(1,.const (.int .u8 67))),(2,(1,cI (-2))),(3,(1,cI 0)),(4,(1,cI 30)),(5,(1,cI (-2))),(6,(1,cI (-3)))]),qI 7 (.build [.sc (.str ⟨#[]⟩),.sc (.int .u8 0),.sc (.int .i64 0),.sc (.int .i64 0),.sc (.int .i64 0),.sc (.int .i64 0),.sc (.int .i64 0)] [(0,(1,.const (.string ⟨#[98,97,114,105,116,111,110,101]⟩))),(1,(1,.const (.int .u8 70))),(2,(1,cI 0)),(3,(1,cI 0)),(4,(1,cI 24)),(5,(1,cI (-2))),(6,(1,cI (-3)))]),qI 8 (.build [.sc (.str ⟨#[]⟩),.sc (.int .u8 0),.sc (.int .i64 0),.sc (.int .i64 0),.sc (.int .i64 0),.sc (.int .i64 0),.sc (.int .i64 0)] [(0,(1,.const (.string ⟨#[116,114,101,98,108,101,56]⟩))),(1,(1,.const (.int .u8 71))),(2,(1,cI (-2))),(3,(1,cI (-1))),(4,(1,cI 27)),(5,(1,cI (-1))),(6,(1,cI (-3)))]),qI 9 (.build [.sc (.str ⟨#[]⟩),.sc (.int .u8 0),.sc (.int .i64 0),.sc (.int .i64 0),.sc (.int .i64 0),.sc (.int .i64 0),.sc (.int .i64 0)] [(0,(1,.const (.string ⟨#[98,97,115,115,56]⟩))),(1,(1,.const (.int .u8 70))),(2,(1,cI 2)),(3,(1,cI (-1))),(4,(1,cI 15)),(5,(1,cI (-3))),(6,(1,cI (-5)))]),qI 10 (.build [.sc (.str ⟨#[]⟩),.sc (.int .u8 0),.sc (.int .i64 0),.sc (.int .i64 0),.sc (.int .i64 0),.sc (.int .i64 0),.sc (.int .i64 0),.sc (.str ⟨#[]⟩),.sc (.int .u8 0),.sc (.int .i64 0),.sc (.int .i64 0),.sc (.int .i64 0),.sc (.int .i64 0),.sc (.int .i64 0),.sc (.str ⟨#[]⟩),.sc (.int .u8 0),.sc (.int .i64 0),.sc (.int .i64 0),.sc (.int .i64 0),.sc (.int .i64 0),.sc (.int .i64 0),.sc (.str ⟨#[]⟩),.sc (.int .u8 0),.sc (.int .i64 0),.sc (.int .i64 0),.sc (.int .i64 0),.sc (.int .i64 0),.sc (.int .i64 0),.sc (.str ⟨#[]⟩),.sc (.int .u8 0),.sc (.int .i64 0),.sc (.int .i64 0),.sc (.int .i64 0),.sc (.int .i64 0),.sc (.int .i64 0),.sc (.str ⟨#[]⟩),.sc (.int .u8 0),.sc (.int .i64 0),.sc (.int .i64 0),.sc (.int .i64 0),.sc (.int .i64 0),.sc (.int .i64 0),.sc (.str ⟨#[]⟩),.sc (.int .u8 0),.sc (.int .i64 0),.sc (.int .i64 0),.sc (.int .i64 0),.sc (.int .i64 0),.sc (.int .i64 0),.sc (.str ⟨#[]⟩),.sc (.int .u8 0),.sc (.int .i64 0),.sc (.int .i64 0),.sc (.int .i64 0),.sc (.int .i64 0),.sc (.int .i64 0),.sc (.str ⟨#[]⟩),.sc (.int .u8 0),.sc (.int .i64 0),.sc (.int .i64 0),.sc (.int .i64 0),.sc (.int .i64 0),.sc (.int .i64 0)] [(0,(7,z1)),(7,(7,z2)),(14,(7,z3)),(21,(7,z4)),(28,(7,z5)),(35,(7,z6)),(42,(7,z7)),(49,(7,z8)),(56,(7,z9))]),nI (.store 63 z0 z10)] .ret),11,[.cellN 63 0]⟩
theorem ok373 : compF prog 373 = some cf373:=by kernel_rfl
theorem ac373 : acB prog 373 = true:=by decide +kernel
def cf374 : CF:=⟨sO [d70,d102] (sO [d124,d93,qI 5 (.loadN 8 z1),⟨some 6,none,.call 449 [z5],[.load1 z3]⟩,qI 7 (.bint .mul z4 z6),mI 2 7] .ret),8,[.tmp 2]⟩
theorem ok374 : compF prog 374 = some cf374:=by kernel_rfl
theorem ac374 : acB prog 374 = true:=by decide +kernel
def cf375 : CF:=⟨d321,19,[.tmp 4]⟩
theorem ok375 : compF prog 375 = some cf375:=by kernel_rfl
theorem ac375 : acB prog 375 = true:=by decide +kernel
def cf376 : CF:=⟨d321,19,[.tmp 4]⟩
theorem ok376 : compF prog 376 = some cf376:=by kernel_rfl
theorem ac376 : acB prog 376 = true:=by decide +kernel
def cf377 : CF:=⟨sO [d103] (.seq (sO [d0,d73,d104] (.block 0 (.loop (sO [d206] (.seq d213 (.seq (.block 1 (sO [mI 10 8,mI 5 10] (sO [d20,d21,mI 13 5,qI 14 (.iaddr 13 z12 z13),qI 15 (.loadN 13 z14),d214] d267))) d268)))))) d246),19,[.tmp 4]⟩
theorem ok377 : compF prog 377 = some cf377:=by kernel_rfl
theorem ac377 : acB prog 377 = true:=by decide +kernel
def cf378 : CF:=⟨sO [d71,d259,d107] (sO [qI 9 (.loadN 2 z2),mI 10 1,qI 11 (.call 450 [z9,z10]),mI 8 11,qI 12 (.ext z8 0),qI 13 (.ext z8 1),mI 6 12,mI 7 13] (.seq (sO [mI 14 7,qI 15 (.bint .eql z14 (cI 0)),mI 16 15,vI 17 16 (.mv z6),vI 18 16 (.len z17),vI 19 16 (.bint .gtr z18 (cI 0)),qI 20 (.pick z16 z19 bF),mI 21 20,vI 22 21 (.mv z6),vI 23 21 (.call 451 [z22]),vI 24 21 d5,vI 25 21 (.bint .neq z23 z24),qI 26 (.pick z21 z25 bF)] (.cond z26 (.ops [qI 7 (.mv (cI 20))]) .skip)) (.seq (sO [mI 27 7,qI 28 (.bint .neq z27 (cI 0))] (.cond z28 (sO [mI 29 7,d259,mI 5 29] .ret) .skip)) (sO [mI 30 6,mI 4 30,d107] .ret)))),31,[.tmp 4,.tmp 5]⟩
theorem ok378 : compF prog 378 = some cf378:=by kernel_rfl
theorem ac378 : acB prog 378 = true:=by decide +kernel
def cf379 : CF:=⟨sO [d64] (.seq d293 (.seq (sO [d14,d84,d121] (.block 0 (.loop (sO [d225] (.seq d218 (.seq (.block 1 (sO [d24,d15] (sO [d16,d17,qI 18 (.iaddr 5 z16 z17),qI 19 (.loadN 5 z18),d18,mI 21 5,qI 22 (.iaddr 5 z20 z21),qI 23 (.loadN 5 z22),qI 24 (.bagg true [.int,.int,.int,.bool,.int] z19 z23)] d265))) d273)))))) d205)),26,[.tmp 4]⟩
theorem ok379 : compF prog 379 = some cf379:=by kernel_rfl
theorem ac379 : acB prog 379 = true:=by decide +kernel
def cf380 : CF:=⟨sO [d64] (.seq d293 (.seq (sO [d14,d84,d121] (.block 0 (.loop (sO [d225] (.seq d218 (.seq (.block 1 (sO [d24,d15] (sO [d16,d17,qI 18 (.iaddr 5 z16 z17),qI 19 (.loadN 5 z18),d18,mI 21 5,qI 22 (.iaddr 5 z20 z21),qI 23 (.loadN 5 z22),qI 24 (.bagg true [.int,.int,.int,.int,.bool] z19 z23)] d265))) d273)))))) d205)),26,[.tmp 4]⟩
theorem ok380 : compF prog 380 = some cf380:=by kernel_rfl
theorem ac380 : acB prog 380 = true:=by decide +kernel
def cf381 : CF:=⟨sO [d64] (.seq d293 (.seq (sO [d14,d84,d121] (.block 0 (.loop (sO [d225] (.seq d218 (.seq (.block 1 (sO [d24,d15] (sO [d16,d17,qI 18 (.iaddr 2 z16 z17),qI 19 (.loadN 2 z18),d18,mI 21 5,qI 22 (.iaddr 2 z20 z21),d167,qI 24 (.bagg true [.str,.int] z19 z23)] d265))) d273)))))) d205)),26,[.tmp 4]⟩
theorem ok381 : compF prog 381 = some cf381:=by kernel_rfl
theorem ac381 : acB prog 381 = true:=by decide +kernel
def cf383 : CF:=⟨sO [d70,d102] (sO [d143,qI 7 (.loadN 3 z6),qI 8 (.call 384 [z7]),mI 5 8,qI 9 (.ext z5 0),qI 10 (.ext z5 1),mI 3 9,mI 4 10] (sO [mI 11 4,qI 12 (.faddr 4 z1),d146,qI 14 (.call 273 [z13,cI 2]),qI 15 (.bslice 2 1 [.sc (.int .i64 0)] [(0,(1,z11)),(1,(1,z14))]),qI 16 (.call 272 [z15]),mI 2 16] .ret)),17,[.tmp 2]⟩
theorem ok383 : compF prog 383 = some cf383:=by kernel_rfl
theorem ac383 : acB prog 383 = true:=by decide +kernel
def cf384 : CF:=⟨sO [d70,d102,d105] (sO [qI 7 (.loadN 3 z1),qI 8 (.call 177 [z7]),mI 6 8,qI 9 (.ext z6 0),qI 10 (.ext z6 1),mI 4 9,mI 5 10] (.seq (sO [mI 11 5,qI 12 (.bint .neq z11 (cI 0)),mI 13 12,uI 14 13 (.mv z4),uI 15 13 (.bint .lss z14 (cI 0)),qI 16 (.pick z13 bT z15),mI 17 16,uI 18 17 (.mv z4),uI 19 17 (.bint .gtr z18 (cI 127)),qI 20 (.pick z17 bT z19)] (.cond z20 (sO [d102,qI 3 (.mv (cI 18))] .ret) .skip)) (sO [mI 21 4,mI 2 21,d105] .ret))),22,[.tmp 2,.tmp 3]⟩
theorem ok384 : compF prog 384 = some cf384:=by kernel_rfl
theorem ac384 : acB prog 384 = true:=by decide +kernel
def cf387 : CF:=⟨sO [qI 0 d299] (sO [qI 1 (.build [.sc (.int .i64 0),.sc (.int .i64 0),.sc (.int .i64 0),.sc (.int .i64 0),.sc (.int .i64 0),.sc (.int .i64 0),.sc (.int .i64 0)] [(0,(1,cI 0)),(1,(1,cI 2)),(2,(1,cI 4)),(3,(1,cI 5)),(4,(1,cI 7)),(5,(1,cI 9)),(6,(1,cI 11))]),nI (.store 7 z0 z1)] .ret),2,[.cellN 7 0]⟩
theorem ok387 : compF prog 387 = some cf387:=by kernel_rfl
theorem ac387 : acB prog 387 = true:=by decide +kernel
def cf388 : CF:=⟨d313,8,[.tmp 2]⟩
theorem ok388 : compF prog 388 = some cf388:=by kernel_rfl
theorem ac388 : acB prog 388 = true:=by decide +kernel
def cf389 : CF:=⟨d313,8,[.tmp 2]⟩
theorem ok389 : compF prog 389 = some cf389:=by kernel_rfl
theorem ac389 : acB prog 389 = true:=by decide +kernel
def cf390 : CF:=⟨sO [d258] (.seq d300 (sO [qI 5 (.eslice 0 2),d0,qI 7 (.app 2 24 z5 z6),mI 2 7] .ret)),8,[.tmp 2]⟩
theorem ok390 : compF prog 390 = some cf390:=by kernel_rfl
theorem ac390 : acB prog 390 = true:=by decide +kernel
def cf401 : CF:=⟨sO [qI 2 (.mv (.const .nilFunc))] (sO [mI 4 0,qI 5 (.call 458 [z4]),mI 3 5] (.block 0 (.loop (.block 1 (.block 2 (sO [mI 8 0,qI 9 (.call 24 [z8,.const (.string ⟨#[42]⟩)]),mI 7 9] (.cond z7 (.ops [mI 10 3,mI 11 0,qI 12 (.call 458 [z11]),qI 13 (.call 64 [z10,z12,.func 459]),mI 3 13]) (sO [mI 15 0,qI 16 (.call 24 [z15,.const (.string ⟨#[47]⟩)]),mI 14 16] (.cond z14 (.ops [mI 17 3,mI 18 0,qI 19 (.call 458 [z18]),qI 20 (.call 64 [z17,z19,.func 460]),mI 3 20]) (sO [mI 22 0,qI 23 (.call 24 [z22,.const (.string ⟨#[92]⟩)]),mI 21 23] (.cond z21 (.ops [mI 24 3,mI 25 0,qI 26 (.call 458 [z25]),qI 27 (.call 64 [z24,z26,.func 462]),mI 3 27]) (sO [mI 6 3,mI 2 6] .ret)))))))))))),28,[.tmp 2]⟩
theorem ok401 : compF prog 401 = some cf401:=by kernel_rfl
theorem ac401 : acB prog 401 = true:=by decide +kernel
def cf402 : CF:=⟨sO [qI 6 (.mv (cI 0))] (sO [mI 7 1,mI 8 2,qI 9 (.bint .add z7 z8),mI 6 9] .ret),10,[.tmp 6]⟩
theorem ok402 : compF prog 402 = some cf402:=by kernel_rfl
theorem ac402 : acB prog 402 = true:=by decide +kernel
def cf403 : CF:=⟨sO [qI 6 (.mv (cI 0))] (sO [mI 7 1,mI 8 2,qI 9 (.bint .sub z7 z8),mI 6 9] .ret),10,[.tmp 6]⟩
theorem ok403 : compF prog 403 = some cf403:=by kernel_rfl
theorem ac403 : acB prog 403 = true:=by decide +kernel
def cf424 : CF:=⟨sO [d70,d102] (sO [qI 5 d45,d89,qI 7 (.bint .add z6 (cI 1)),qI 8 (.shft .shr (cI 3870720) z7),mI 3 8] (sO [mI 9 3,mI 4 9] (.seq (sO [qI 10 d52,d134,d155] (.block 0 (.loop (sO [d230] (.seq d222 (.seq (.block 1 (sO [mI 14 3,qI 15 (.bint .quo z14 (cI 2)),mI 3 15] (.ops [mI 16 4,mI 17 3,qI 18 (.bint .add z16 z17),mI 4 18]))) (.ops [qI 19 d197,mI 12 19]))))))) (sO [mI 20 4,mI 2 20] .ret)))),21,[.tmp 2]⟩
theorem ok424 : compF prog 424 = some cf424:=by kernel_rfl
theorem ac424 : acB prog 424 = true:=by decide +kernel
def cf449 : CF:=⟨sO [d70,d102] (sO [qI 3 d52,d93,qI 5 (.bint .quo (cI 1935360) z4),mI 2 5] .ret),6,[.tmp 2]⟩
theorem ok449 : compF prog 449 = some cf449:=by kernel_rfl
theorem ac449 : acB prog 449 = true:=by decide +kernel
def cf450 : CF:=⟨sO [d71,d259,d107] (.seq (.block 0 (sO [mI 8 1,qI 9 (.bint .lss z8 (cI 1)),d12,uI 11 10 d5,uI 12 10 (.bint .gtr z11 (cI 15482880)),qI 13 (.pick z10 bT z12),mI 7 13] (.cond z7 (sO [d259,qI 5 d32] .ret) (sO [qI 15 d39,d126,qI 17 (.len z16),qI 18 (.bint .gtr z17 (cI 128)),mI 14 18] (.cond z14 (sO [d259,qI 5 (.mv (cI 9))] .ret) .skip))))) (.seq (sO [qI 19 (.loadN 2 z2),qI 20 (.call 482 [z19]),mI 21 20,vI 22 21 d39,vI 23 21 (.load1 z22),vI 24 21 (.len z23),vI 25 21 (.bint .eql z24 (cI 1)),qI 26 (.pick z21 z25 bF)] (.cond z26 (.seq (sO [qI 27 d39,d132,qI 29 (.iaddr 13 z28 (cI 0)),qI 30 (.loadN 13 z29),qI 31 (.call 173 [z30]),mI 6 31] (sO [mI 32 6,qI 33 (.bint .neq z32 (cI 0))] (.cond z33 (sO [mI 34 6,d259,mI 5 34] .ret) .skip))) (.seq (sO [qI 35 d47,d161,qI 37 (.len z36),qI 38 (.bint .gtr z37 (cI 0))] (.cond z38 d283 .skip)) (sO [mI 39 1,d279,mI 4 40,d107] .ret))) .skip)) (sO [qI 41 (.loadN 2 z2),qI 42 (.call 483 [z41]),qI 43 (.ext z42 0),qI 44 (.ext z42 1),mI 4 43,mI 5 44] .ret))),45,[.tmp 4,.tmp 5]⟩
theorem ok450 : compF prog 450 = some cf450:=by kernel_rfl
theorem ac450 : acB prog 450 = true:=by decide +kernel
def cf451 : CF:=⟨sO [d102] (sO [d105] (.seq (sO [d0,d73,d104] (.block 0 (.loop (sO [d206] (.seq d213 (.seq (.block 1 (sO [qI 10 (.iaddr 1 z6 z8),d134,mI 5 11] (.ops [mI 12 3,mI 13 5,qI 14 (.bint .add z12 z13),mI 3 14]))) (.ops [qI 15 d170,mI 8 15]))))))) (sO [mI 16 3,mI 2 16] .ret))),17,[.tmp 2]⟩
theorem ok451 : compF prog 451 = some cf451:=by kernel_rfl
theorem ac451 : acB prog 451 = true:=by decide +kernel
def cf454 : CF:=⟨sO [d102] (sO [d105] (.seq (sO [d0,d73,d104] (.block 0 (.loop (sO [d206] (.seq d213 (.seq (.block 1 (sO [qI 10 (.iaddr 1 z6 z8),d134,mI 5 11] (sO [mI 12 5,mI 13 3,qI 14 (.bint .neq z12 z13)] (.cond z14 (sO [mI 15 5,mI 2 15] .ret) .skip)))) (.ops [qI 16 d170,mI 8 16]))))))) (sO [mI 17 3,mI 2 17] .ret))),18,[.tmp 2]⟩
theorem ok454 : compF prog 454 = some cf454:=by kernel_rfl
theorem ac454 : acB prog 454 = true:=by decide +kernel
def cf455 : CF:=⟨sO [d103] (sO [d2,qI 8 (.call 207 [z7]),mI 5 8] (sO [mI 9 1,qI 10 (.call 207 [z9]),mI 6 10] (.seq (sO [mI 11 5] (.cond z11 (.seq (sO [mI 12 6] (.cond z12 d236 .skip)) d246) .skip)) (.seq (sO [mI 13 6] (.cond z13 (sO [d109] .ret) .skip)) (.seq (sO [d19,mI 15 1,qI 16 (.bint .lss z14 z15)] (.cond z16 d246 .skip)) (.seq (sO [mI 17 0,mI 18 1,qI 19 (.bint .gtr z17 z18)] (.cond z19 (sO [d109] .ret) .skip)) d236)))))),20,[.tmp 4]⟩
theorem ok455 : compF prog 455 = some cf455:=by kernel_rfl
theorem ac455 : acB prog 455 = true:=by decide +kernel
def cf458 : CF:=⟨sO [qI 2 (.mv (.const .nilFunc))] (.seq (sO [mI 4 0,qI 5 (.call 24 [z4,.const (.string ⟨#[45]⟩)])] (.cond z5 (sO [mI 6 0,qI 7 (.call 458 [z6]),qI 3 (.alloc [.sc .nilf]),nI (.store 1 z3 z7)] (sO [qI 8 (.mkf (.func 509) [] [z3]),mI 2 8] .ret)) .skip)) (sO [mI 9 0,qI 10 (.call 510 [z9]),mI 2 10] .ret)),11,[.tmp 2]⟩
theorem ok458 : compF prog 458 = some cf458:=by kernel_rfl
theorem ac458 : acB prog 458 = true:=by decide +kernel
def cf459 : CF:=⟨sO [qI 6 (.mv (cI 0))] (.seq (sO [mI 7 1,qI 8 (.bint .neq z7 (cI 0)),mI 9 8,vI 10 9 (.mv z2),vI 11 9 (.mv z2),vI 12 9 (.prim ⟨some 12,.unOp .neg 3 (.tmp 11),3,"script.go:533",#[⟨4,.data⟩,⟨2,.guard⟩],some (2,true)⟩),vI 13 9 (.maxi z10 z12),vI 14 9 (.mv z1),vI 15 9 (.mv z1),vI 16 9 (.prim ⟨some 16,.unOp .neg 3 (.tmp 15),3,"script.go:533",#[⟨8,.data⟩,⟨2,.guard⟩],some (2,true)⟩),vI 17 9 (.maxi z14 z16),vI 18 9 (.bint .quo (cI 1099511627776) z17),vI 19 9 (.bint .gtr z13 z18),qI 20 (.pick z9 z19 bF)] (.cond z20 (sO [qI 6 (.mv (cI 1099511627777))] .ret) .skip)) (sO [mI 21 1,mI 22 2,qI 23 (.bint .mul z21 z22),mI 6 23] .ret)),24,[.tmp 6]⟩
theorem ok459 : compF prog 459 = some cf459:=by kernel_rfl
theorem ac459 : acB prog 459 = true:=by decide +kernel
def cf460 : CF:=⟨sO [qI 6 (.mv (cI 0))] (.seq (sO [mI 7 0,mI 8 2,qI 9 (.call 461 [z7,z8])] (.cond z9 (sO [mI 10 1,mI 11 2,qI 12 (.bint .quo z10 z11),mI 6 12] .ret) .skip)) (sO [qI 6 (.mv (cI 0))] .ret)),13,[.tmp 6]⟩
theorem ok460 : compF prog 460 = some cf460:=by kernel_rfl
theorem ac460 : acB prog 460 = true:=by decide +kernel
def cf461 : CF:=⟨sO [qI 4 (.mv bF)] (.seq (sO [mI 5 1,qI 6 (.bint .eql z5 (cI 0))] (.cond z6 (.ops [mI 7 0,qI 8 (.call 104 [z7,cI 15])]) .skip)) (sO [mI 9 1,qI 10 (.bint .neq z9 (cI 0)),mI 4 10] .ret)),11,[.tmp 4]⟩
theorem ok461 : compF prog 461 = some cf461:=by kernel_rfl
theorem ac461 : acB prog 461 = true:=by decide +kernel
def cf462 : CF:=⟨sO [qI 6 (.mv (cI 0))] (.seq (sO [mI 7 0,mI 8 2,qI 9 (.call 461 [z7,z8])] (.cond z9 (sO [mI 10 1,mI 11 2,qI 12 (.bint .rem z10 z11),mI 6 12] .ret) .skip)) (sO [qI 6 (.mv (cI 0))] .ret)),13,[.tmp 6]⟩
theorem ok462 : compF prog 462 = some cf462:=by kernel_rfl
theorem ac462 : acB prog 462 = true:=by decide +kernel
def cf482 : CF:=⟨sO [d70,d66] (sO [d124,d93,qI 5 (.len z4),qI 6 (.bint .gtr z5 (cI 0)),mI 7 6,vI 8 7 d45,vI 9 7 (.load1 z8),vI 10 7 (.iaddr 13 z9 (cI 0)),vI 11 7 (.faddr 2 z10),vI 12 7 (.load1 z11),vI 13 7 (.bint .eql z12 (cI 3)),qI 14 (.pick z7 z13 bF),mI 2 14] .ret),15,[.tmp 2]⟩
theorem ok482 : compF prog 482 = some cf482:=by kernel_rfl
theorem ac482 : acB prog 482 = true:=by decide +kernel
def cf483 : CF:=⟨sO [d70,d258,d105] (.seq (sO [qI 12 d45,d146,d87,d122] (.block 0 (.loop (sO [d226] (.seq d219 (.seq (.block 1 (sO [mI 17 15,qI 18 (.iaddr 13 z13 z15),qI 19 (.loadN 13 z18),d310,mI 4 17,nI (.store 13 z5 z19)] (.seq (sO [qI 20 (.loadN 13 z5),qI 21 (.call 173 [z20]),mI 6 21] (sO [mI 22 6,qI 23 (.bint .neq z22 (cI 0))] (.cond z23 (sO [mI 24 6,d258,mI 3 24] .ret) .skip))) (sO [qI 25 (.faddr 2 z5),d130,qI 27 (.bint .eql z26 (cI 3)),mI 28 27,vI 29 28 (.mv z4),vI 30 28 (.bint .gtr z29 (cI 0)),vI 31 28 (.mv z30),uI 32 31 d45,uI 33 31 (.load1 z32),uI 34 31 (.len z33),uI 35 31 (.bint .gtr z34 (cI 1)),vI 36 28 (.pick z31 bT z35),qI 37 (.pick z28 z36 bF)] (.cond z37 (sO [d258,qI 3 (.mv (cI 11))] .ret) .skip))))) (.ops [qI 38 d186,mI 15 38]))))))) (sO [qI 39 d45,d137,qI 41 (.call 525 [z40]),mI 7 41] (sO [qI 43 d52,d150,mI 45 7,qI 46 (.call 526 [z44,z45]),mI 42 46,qI 47 (.ext z42 0),qI 48 (.ext z42 1),mI 8 47,mI 9 48] (.seq (sO [mI 49 9,qI 50 (.bint .neq z49 (cI 0))] (.cond z50 (sO [mI 51 9,d258,mI 3 51] .ret) .skip)) (.seq (sO [qI 53 d52,d138,mI 55 7,qI 56 (.call 527 [z54,z55]),mI 52 56,qI 57 (.ext z52 0),qI 58 (.ext z52 1),mI 10 57,mI 11 58] (sO [mI 59 11,qI 60 (.bint .neq z59 (cI 0))] (.cond z60 (sO [d258,qI 3 (.mv (cI 21))] .ret) .skip))) (sO [mI 61 8,mI 2 61,d105] .ret)))))),62,[.tmp 2,.tmp 3]⟩
theorem ok483 : compF prog 483 = some cf483:=by kernel_rfl
theorem ac483 : acB prog 483 = true:=by decide +kernel
def cf509 : CF:=⟨sO [qI 3 (.mv (cI 0))] (sO [qI 4 (.load1 z1),mI 5 0,qI 6 (.callv z4 [z5]),qI 7 (.prim ⟨some 7,.unOp .neg 3 (.tmp 6),3,"script.go:542",#[⟨2,.data⟩],none⟩),mI 3 7] .ret),8,[.tmp 3]⟩
theorem ok509 : compF prog 509 = some cf509:=by kernel_rfl
theorem ac509 : acB prog 509 = true:=by decide +kernel
def cf510 : CF:=⟨sO [qI 2 (.mv (.const .nilFunc))] (sO [qI 3 (.mv (.func 550))] (.seq (.block 0 (sO [mI 9 0,qI 10 (.call 15 [z9]),qI 11 (.fld1 0 z10),qI 12 (.bint .eql z11 (cI 2)),mI 8 12] (.cond z8 (sO [mI 13 0,qI 14 (.call 141 [z13,cI 0,cI 1099511627776]),qI 4 (.alloc [.sc (.int .i64 0)]),nI (.store 1 z4 z14)] (sO [qI 15 (.mkf (.func 551) [] [z4]),mI 2 15] .ret)) (sO [mI 17 0,qI 18 (.call 60 [z17,.const (.string ⟨#[105,116]⟩)]),mI 16 18] (.cond z16 (sO [mI 19 0,qI 20 (.call 552 [z19]),mI 2 20] .ret) (sO [mI 22 0,qI 23 (.call 24 [z22,.const (.string ⟨#[99,111,117,110,116]⟩)]),mI 21 23] (.cond z21 (sO [mI 24 0,qI 25 (.call 67 [z24,.const (.string ⟨#[40]⟩)])] (sO [mI 26 0,qI 27 (.call 29 [z26]),qI 5 (.alloc [.sc .nilp]),nI (.store 1 z5 z27)] (sO [mI 28 0,qI 29 (.call 68 [z28,.const (.string ⟨#[41]⟩)])] (sO [qI 30 (.mkf (.func 553) [] [z5]),mI 2 30] .ret)))) (sO [mI 32 0,qI 33 (.call 60 [z32,.const (.string ⟨#[40]⟩)]),mI 31 33] (.cond z31 (sO [mI 34 0,qI 35 (.call 67 [z34,.const (.string ⟨#[40]⟩)])] (sO [mI 36 0,qI 37 (.call 27 [z36]),mI 6 37] (sO [mI 38 0,qI 39 (.call 68 [z38,.const (.string ⟨#[41]⟩)])] (sO [mI 40 6,mI 2 40] .ret)))) (sO [mI 42 0,qI 43 (.call 31 [z42]),mI 41 43] (.cond z41 (sO [mI 44 0,qI 45 (.call 32 [z44]),qI 7 (.alloc [.sc (.str ⟨#[]⟩)]),nI (.store 1 z7 z45)] (sO [qI 46 (.mkf (.func 555) [] [z7]),mI 2 46] .ret)) .skip))))))))))) (sO [mI 47 0,qI 48 (.call 34 [z47,cI 13])] (sO [mI 49 3,mI 2 49] .ret)))),50,[.tmp 2]⟩
theorem ok510 : compF prog 510 = some cf510:=by kernel_rfl
theorem ac510 : acB prog 510 = true:=by decide +kernel
def cf525 : CF:=⟨sO [d258] (sO [d0,d73,qI 8 (.mks 1 8 [.sc (.int .i64 0)] z7 z7),mI 3 8] (.seq (sO [d6,qI 10 (.len z9),qI 11 d29] (.block 0 (.loop (sO [qI 12 (.bint .lss z11 z10)] (.seq d220 (.seq (.block 1 (sO [mI 13 11,qI 14 (.iaddr 13 z9 z11),qI 15 (.loadN 13 z14),d310,mI 4 13,nI (.store 13 z5 z15)] (.ops [mI 17 3,mI 18 4,qI 19 (.loadN 13 z5),qI 20 (.call 563 [z19]),mI 16 20,qI 21 (.ext z16 0),qI 22 (.ext z16 1),qI 23 (.iaddr 1 z17 z18),nI (.store 1 z23 z21)]))) (.ops [qI 24 d191,mI 11 24]))))))) (sO [mI 25 3,mI 2 25] .ret))),26,[.tmp 2]⟩
theorem ok525 : compF prog 525 = some cf525:=by kernel_rfl
theorem ac525 : acB prog 525 = true:=by decide +kernel
def cf526 : CF:=⟨sO [d259,d107] (.seq (sO [d21,mI 13 1,d87,qI 15 (.call 564 [z12,z14]),mI 6 15] (sO [mI 16 6,d243] (.cond z17 (sO [mI 18 6,d259,mI 5 18] .ret) .skip))) (sO [mI 19 1,qI 20 (.len z19),qI 21 (.mks 1 8 [.sc (.int .i64 0)] (cI 0) z20),mI 7 21] (.seq (sO [mI 22 1,qI 23 (.len z22),qI 24 d29] (.block 0 (.loop (sO [qI 25 (.bint .lss z24 z23)] (.seq d221 (.seq (.block 1 (sO [mI 26 24,qI 27 (.iaddr 1 z22 z24),d132,mI 8 26,mI 9 28] (sO [mI 30 0,mI 31 8,mI 32 9,qI 33 (.call 565 [z30,z31,z32]),mI 29 33,qI 34 (.ext z29 0),qI 35 (.ext z29 1),mI 10 34,mI 11 35] (.seq (sO [mI 36 11,qI 37 (.bint .neq z36 (cI 0))] (.cond z37 (sO [mI 38 11,d259,mI 5 38] .ret) .skip)) (.ops [mI 39 7,mI 40 10,qI 41 (.bslice 1 1 [.sc (.int .i64 0)] [(0,(1,z40))]),qI 42 (.app 1 8 z39 z41),mI 7 42]))))) (.ops [qI 43 (.bint .add z24 (cI 1)),mI 24 43]))))))) (sO [mI 44 7,mI 4 44,d107] .ret)))),45,[.tmp 4,.tmp 5]⟩
theorem ok526 : compF prog 526 = some cf526:=by kernel_rfl
theorem ac526 : acB prog 526 = true:=by decide +kernel
def cf527 : CF:=⟨sO [d259,d107] (.seq (sO [d22,mI 14 1,qI 15 (.call 526 [z13,z14]),mI 12 15,qI 16 (.ext z12 0),qI 17 (.ext z12 1),mI 6 16,mI 7 17] (sO [mI 18 7,d244] (.cond z19 (sO [mI 20 7,d259,mI 5 20] .ret) .skip))) (sO [mI 21 0,d95,qI 23 (.mks 1 8 [.sc (.int .i64 0)] (cI 0) z22),mI 8 23] (.seq (sO [mI 24 0,qI 25 (.len z24),qI 26 d29] (.block 0 (.loop (sO [qI 27 (.bint .lss z26 z25)] (.seq (.cond z27 .skip d10) (.seq (.block 1 (sO [mI 28 26,mI 9 28] (sO [mI 30 0,mI 31 9,mI 32 1,qI 33 (.call 566 [z30,z31,z32]),mI 29 33,qI 34 (.ext z29 0),qI 35 (.ext z29 1),mI 10 34,mI 11 35] (.seq (sO [mI 36 11,qI 37 (.not z36)] (.cond z37 d283 .skip)) (.ops [mI 38 8,mI 39 10,d279,qI 41 (.app 1 8 z38 z40),mI 8 41]))))) (.ops [qI 42 d189,mI 26 42]))))))) (sO [mI 43 8,mI 4 43,d107] .ret)))),44,[.tmp 4,.tmp 5]⟩
theorem ok527 : compF prog 527 = some cf527:=by kernel_rfl
theorem ac527 : acB prog 527 = true:=by decide +kernel
def cf550 : CF:=⟨sO [d102] d232,3,[.tmp 2]⟩
theorem ok550 : compF prog 550 = some cf550:=by kernel_rfl
theorem ac550 : acB prog 550 = true:=by decide +kernel
def cf551 : CF:=⟨sO [qI 3 (.mv (cI 0))] (sO [qI 4 (.load1 z1),mI 3 4] .ret),5,[.tmp 3]⟩
theorem ok551 : compF prog 551 = some cf551:=by kernel_rfl
theorem ac551 : acB prog 551 = true:=by decide +kernel
def cf552 : CF:=⟨sO [d240] (.seq (sO [d7,qI 5 (.nilc z4),qI 6 (.faddr 3 z5),d85,qI 8 (.bint .eql z7 (cI 0))] (.cond z8 (.ops [d6,qI 10 (.call 34 [z9,cI 32])]) (.ops [d14,qI 12 (.call 33 [z11,.const (.string ⟨#[105,116]⟩)])]))) (sO [d22,qI 14 (.call 33 [z13,.const (.string ⟨#[46]⟩)])] (sO [d13,qI 16 (.call 15 [z15]),d302,nI (.store 7 z3 z16)] (.seq (.block 0 (sO [qI 25 d41,d130,qI 27 (.bint .neq z26 (cI 1)),mI 24 27] (.cond z24 (.ops [mI 28 0,qI 29 (.call 34 [z28,cI 13])]) (sO [qI 32 d48,d147,⟨some 31,none,.call 577 [],[.load1 z32]⟩,qI 34 (.call 243 [z31,z33]),qI 35 (.not z34),mI 30 35] (.cond z30 (.ops [mI 36 0,qI 37 (.call 34 [z36,cI 32])]) (.ops [mI 17 0,qI 18 (.nilc z17),d174,d123,qI 21 d190,qI 22 (.nilc z17),qI 23 (.faddr 1 z22),nI (.store 1 z23 z21)])))))) (sO [qI 38 (.mkf (.func 578) [] [z3]),mI 2 38] .ret))))),39,[.tmp 2]⟩
theorem ok552 : compF prog 552 = some cf552:=by kernel_rfl
theorem ac552 : acB prog 552 = true:=by decide +kernel
def cf553 : CF:=⟨sO [d105] (sO [d7,d94,qI 6 (.call 554 [z4,z5]),d73,mI 3 7] .ret),8,[.tmp 3]⟩
theorem ok553 : compF prog 553 = some cf553:=by kernel_rfl
theorem ac553 : acB prog 553 = true:=by decide +kernel
def cf554 : CF:=⟨sO [d259] (sO [qI 5 d284] (.seq (sO [mI 18 1,qI 19 (.nilc z18),qI 20 (.faddr 1 z19),qI 21 (.loadN 4 z20),qI 22 d29] (.block 0 (.loop (sO [qI 23 (.bint .lss z22 (cI 4))] (.seq (.cond z23 .skip d10) (.seq (.block 1 (sO [mI 24 22,qI 25 (.idxA 4 1 z21 z22),mI 6 24,mI 7 25] (sO [mI 26 7,qI 27 (.bnil true .func z26 (.const .nilFunc))] (.cond z27 (.ops [mI 28 6,mI 29 7,mI 30 0,qI 31 (.callv z29 [z30]),qI 32 (.iaddrA 4 1 z5 z28),nI (.store 1 z32 z31)]) .skip)))) (.ops [qI 33 (.bint .add z22 (cI 1)),mI 22 33]))))))) (.seq (sO [mI 34 0,qI 35 (.nilc z34),qI 36 (.faddr 14 z35),d136,qI 38 (.bint .neq z37 (cI 0))] (.cond z38 (sO [d259] .ret) .skip)) (sO [d263] (sO [mI 40 0,qI 41 (.nilc z40),qI 42 (.faddr 0 z41),qI 43 (.loadN 6 z42),qI 44 (.call 580 [z43]),mI 39 44,qI 45 (.ext z39 0),qI 46 (.ext z39 1),mI 9 45,mI 10 46] (.seq (sO [mI 47 9,qI 48 (.len z47),d154] (.block 2 (.loop (sO [d229] (.seq (.cond z50 .skip d11) (.seq (.block 3 (sO [mI 51 49,qI 52 (.iaddr 7 z47 z49),qI 53 (.loadN 7 z52),qI 12 d299,mI 11 51,nI (.store 7 z12 z53)] (sO [qI 54 d60,qI 55 (.load1 z54),qI 56 (.bint .eql z55 (cI 4)),mI 13 56] (sO [mI 57 13,mI 58 57,uI 59 58 d60,uI 60 58 (.load1 z59),uI 61 58 (.bint .eql z60 (cI 2)),qI 62 (.pick z58 bT z61),mI 63 62,vI 64 63 (.faddr 2 z12),vI 65 63 d33,vI 66 63 (.iaddrA 4 1 z5 (cI 0)),vI 67 63 (.load1 z66),vI 68 63 (.bint .eql z65 z67),qI 69 (.pick z63 z68 bF),mI 70 13,mI 71 70,vI 72 71 (.faddr 4 z12),vI 73 71 d34,vI 74 71 (.iaddrA 4 1 z5 (cI 1)),vI 75 71 (.load1 z74),vI 76 71 (.bint .eql z73 z75),qI 77 (.pick z71 z76 bF),mI 78 13,mI 79 78,uI 80 79 d60,uI 81 79 (.load1 z80),uI 82 79 (.bint .eql z81 (cI 3)),qI 83 (.pick z79 bT z82),mI 84 83,vI 85 84 (.faddr 3 z12),vI 86 84 (.load1 z85),vI 87 84 (.iaddrA 4 1 z5 (cI 2)),vI 88 84 (.load1 z87),vI 89 84 (.bint .geq z86 z88),qI 90 (.pick z84 z89 bF),mI 91 13,mI 92 91,uI 93 92 d60,uI 94 92 (.load1 z93),uI 95 92 (.bint .eql z94 (cI 3)),qI 96 (.pick z92 bT z95),mI 97 96,vI 98 97 (.faddr 3 z12),vI 99 97 (.load1 z98),vI 100 97 (.iaddrA 4 1 z5 (cI 3)),vI 101 97 (.load1 z100),vI 102 97 (.bint .leq z99 z101),qI 103 (.pick z97 z102 bF),qI 104 (.build [.sc (.bool false),.sc (.bool false),.sc (.bool false),.sc (.bool false)] [(0,(1,z69)),(1,(1,z77)),(2,(1,z90)),(3,(1,z103))]),qI 14 (.alloc [.sc (.bool false),.sc (.bool false),.sc (.bool false),.sc (.bool false)]),nI (.store 4 z14 z104)] (sO [mI 105 1,mI 106 0,qI 107 (.nilc z106),qI 108 (.faddr 0 z107),qI 109 (.loadN 6 z108),qI 110 (.loadN 7 z12),qI 111 (.call 581 [z105,z109,z110]),mI 15 111] (.seq (sO [mI 112 1,qI 113 (.nilc z112),qI 114 (.faddr 1 z113),qI 115 (.loadN 4 z114),qI 116 d29] (.block 4 (.loop (sO [qI 117 (.bint .lss z116 (cI 4))] (.seq (.cond z117 .skip d23) (.seq (.block 5 (sO [mI 118 116,qI 119 (.idxA 4 1 z115 z116),mI 16 118,mI 17 119] (.ops [mI 120 15,mI 121 120,vI 122 121 (.mv z17),vI 123 121 (.bnil false .func z122 (.const .nilFunc)),vI 124 121 (.mv z123),uI 125 124 (.mv z16),uI 126 124 (.iaddrA 4 1 z14 z125),uI 127 124 (.load1 z126),vI 128 121 (.pick z124 bT z127),qI 129 (.pick z121 z128 bF),mI 15 129]))) (.ops [qI 130 (.bint .add z116 (cI 1)),mI 116 130]))))))) (sO [mI 131 15] (.cond z131 (.ops [mI 132 8,mI 133 10,mI 134 11,qI 135 (.iaddr 2 z133 z134),qI 136 (.loadN 2 z135),qI 137 (.bslice 1 2 [.sc (.int .i64 0),.sc (.int .i64 0)] [(0,(2,z136))]),qI 138 (.app 2 16 z132 z137),mI 8 138]) .skip)))))))) (.ops [qI 139 d196,mI 49 139]))))))) (sO [mI 140 8,mI 4 140] .ret))))))),141,[.tmp 4]⟩
theorem ok554 : compF prog 554 = some cf554:=by kernel_rfl
theorem ac554 : acB prog 554 = true:=by decide +kernel
def cf555 : CF:=⟨sO [d105] (sO [d7,d94,qI 6 (.call 556 [z4,z5]),d78,d88,mI 3 8] .ret),9,[.tmp 3]⟩
theorem ok555 : compF prog 555 = some cf555:=by kernel_rfl
theorem ac555 : acB prog 555 = true:=by decide +kernel
def cf556 : CF:=⟨sO [d72,qI 4 (.alloc [.sc .nilp])] (.seq (sO [d6,d97,qI 11 (.faddr 12 z10),d125,qI 13 (.call 582 [z12])] (.block 0 (.range z13 #[14,15] (.region 2 #[⟨some 6,.assign (.tmp 15),152,"script.go:696",#[],none⟩] false) (.block 1 (.seq (.region 3 #[⟨some 17,.move (.tmp 6),152,"script.go:697",#[],none⟩,⟨some 18,.load 9 (.tmp 3),9,"script.go:697",#[],none⟩,⟨some 19,.lookup 152 (.tmp 17) (.tmp 18) true,443,"script.go:697",#[⟨0,.data⟩,⟨1,.data⟩],none⟩,⟨some 16,.move (.tmp 19),443,"script.go:697",#[⟨2,.data⟩],none⟩,⟨some 20,.extract (.tmp 16) 0,190,"script.go:697",#[⟨3,.data⟩],none⟩,⟨some 21,.extract (.tmp 16) 1,4,"script.go:697",#[⟨3,.data⟩,⟨6,.gcOnly .lateStores⟩],none⟩,⟨some 7,.assign (.tmp 20),190,"script.go:697",#[⟨4,.data⟩,⟨0,.phase⟩,⟨1,.phase⟩,⟨2,.phase⟩,⟨3,.phase⟩,⟨4,.phase⟩,⟨5,.textOnly .lateStores⟩],none⟩,⟨some 8,.assign (.tmp 21),4,"script.go:697",#[⟨5,.data⟩,⟨6,.chain⟩,⟨0,.phase⟩,⟨1,.phase⟩,⟨2,.phase⟩,⟨3,.phase⟩,⟨4,.phase⟩,⟨5,.phase⟩,⟨6,.phase⟩],none⟩] false) (.seq (.region 4 #[⟨some 22,.move (.tmp 8),4,"script.go:697",#[],none⟩] false) (.cond (.tmp 22) (.seq (.region 5 #[⟨some 23,.move (.tmp 7),190,"script.go:698",#[],none⟩,⟨none,.store 190 (.tmp 4) (.tmp 23),0,"script.go:698",#[⟨0,.data⟩,⟨0,.phase⟩],none⟩] false) .ret) .skip)))) (.ops [mI 6 15]) (.block 1 (sO [mI 17 6,qI 18 (.load1 z3),qI 19 (.lkup false [.str] (.sc .nilp) true z17 z18),mI 16 19,qI 20 (.ext z16 0),qI 21 (.ext z16 1),mI 7 20,mI 8 21] (sO [mI 22 8] (.cond z22 (sO [mI 23 7,nI (.store 1 z4 z23)] .ret) .skip))))))) (sO [qI 24 d227,nI (.store 1 z4 z24)] .ret)),25,[.cell1 4]⟩
theorem ok556 : compF prog 556 = some cf556:=by kernel_rfl
theorem ac556 : acB prog 556 = true:=by decide +kernel
def cf563 : CF:=⟨sO [d70,d102,d105] (.seq (sO [qI 5 d61,qI 6 (.call 173 [z5]),mI 4 6] (sO [mI 7 4,d233,mI 9 8,uI 10 9 d35,uI 11 9 (.load1 z10),uI 12 9 (.bint .eql z11 (cI 3)),qI 13 (.pick z9 bT z12)] (.cond z13 (sO [mI 14 4,d102,mI 3 14] .ret) .skip))) (sO [qI 15 d36,qI 16 (.loadN 2 z15),qI 17 (.call 341 [z16]),qI 18 (.ext z17 0),qI 19 (.ext z17 1),mI 2 18,mI 3 19] .ret)),20,[.tmp 2,.tmp 3]⟩
theorem ok563 : compF prog 563 = some cf563:=by kernel_rfl
theorem ac563 : acB prog 563 = true:=by decide +kernel
def cf564 : CF:=⟨sO [d103] (.seq (sO [mI 9 1,d241,d25,uI 12 11 d5,uI 13 11 (.bint .gtr z12 (cI 128)),qI 14 (.pick z11 bT z13)] (.cond z14 d235 .skip)) (.seq (sO [d13,d82,qI 17 (.bint .gtr z16 (cI 16))] (.cond z17 (sO [qI 4 (.mv (cI 9))] .ret) .skip)) (sO [qI 5 (.alloc [.sc .nils])] (sO [qI 18 (.mkf (.func 584) [] [z5]),mI 6 18] (.seq (sO [mI 19 0,qI 20 (.len z19),qI 21 d29] (.block 0 (.loop (sO [qI 22 (.bint .lss z21 z20)] (.seq (.cond z22 .skip d10) (.seq (.block 1 (sO [mI 23 21,qI 24 (.iaddr 4 z19 z21),qI 25 (.loadN 4 z24),d286,mI 7 23,nI (.store 4 z8 z25)] (.seq (sO [qI 26 d54,d114,qI 28 (.bint .lss z27 (cI 1)),mI 29 28,uI 30 29 d54,uI 31 29 (.load1 z30),uI 32 29 d5,uI 33 29 (.bint .gtr z31 z32),qI 34 (.pick z29 bT z33),mI 35 34,uI 36 35 (.faddr 0 z8),uI 37 35 (.load1 z36),uI 38 35 (.bint .lss z37 (cI 0)),qI 39 (.pick z35 bT z38),mI 40 39,uI 41 40 (.faddr 0 z8),uI 42 40 (.load1 z41),uI 43 40 d5,uI 44 40 d54,uI 45 40 (.load1 z44),uI 46 40 (.bint .sub z43 z45),uI 47 40 (.bint .gtr z42 z46),qI 48 (.pick z40 bT z47),mI 49 48,uI 50 49 (.faddr 2 z8),uI 51 49 (.load1 z50),uI 52 49 (.call 586 [z51]),uI 53 49 (.not z52),qI 54 (.pick z49 bT z53),mI 55 54,uI 56 55 (.faddr 3 z8),uI 57 55 (.load1 z56),uI 58 55 (.call 586 [z57]),uI 59 55 (.not z58),qI 60 (.pick z55 bT z59),mI 61 60,uI 62 61 (.faddr 2 z8),uI 63 61 (.load1 z62),uI 64 61 (.faddr 3 z8),uI 65 61 d33,uI 66 61 (.bint .eql z63 z65),qI 67 (.pick z61 bT z66)] (.cond z67 d235 .skip)) (.seq (sO [mI 68 7,qI 69 (.bint .gtr z68 (cI 0)),mI 70 69,vI 71 70 d3,vI 72 70 (.mv z7),vI 73 70 (.bint .sub z72 (cI 1)),vI 74 70 (.iaddr 4 z71 z73),vI 75 70 (.loadN 4 z74),vI 76 70 (.loadN 4 z8),vI 77 70 (.call 587 [z75,z76]),vI 78 70 (.bint .gtr z77 (cI 0)),qI 79 (.pick z70 z78 bF)] (.cond z79 (sO [qI 4 (.mv (cI 25))] .ret) .skip)) (sO [mI 80 6,qI 81 (.loadN 4 z8),qI 82 (.callv z80 [z81]),qI 83 (.not z82)] (.cond z83 (sO [qI 4 (.mv (cI 21))] .ret) .skip)))))) (.ops [qI 84 (.bint .add z21 (cI 1)),mI 21 84]))))))) d236))))),85,[.tmp 4]⟩
theorem ok564 : compF prog 564 = some cf564:=by kernel_rfl
theorem ac564 : acB prog 564 = true:=by decide +kernel
def cf565 : CF:=⟨sO [d100,d101] (.seq (sO [mI 10 2,qI 11 (.bint .lss z10 (cI 0)),mI 12 11,uI 13 12 d8,uI 14 12 (.bint .gtr z13 (cI 7741440)),qI 15 (.pick z12 bT z14)] (.cond z15 (sO [d100,qI 7 d32] .ret) .skip)) (sO [mI 17 0,mI 18 1,qI 19 (.call 588 [z17,z18]),mI 16 19,qI 20 (.ext z16 0),qI 21 (.ext z16 1),mI 8 20,mI 9 21] (.seq (sO [mI 22 2,mI 23 8,qI 24 (.bint .mul z22 z23),mI 25 9,qI 26 (.bint .rem z24 z25),qI 27 (.bint .neq z26 (cI 0))] (.cond z27 (sO [d100,qI 7 (.mv (cI 16))] .ret) .skip)) (sO [mI 28 2,mI 29 8,qI 30 (.bint .mul z28 z29),mI 31 9,qI 32 (.bint .quo z30 z31),mI 6 32,d101] .ret)))),33,[.tmp 6,.tmp 7]⟩
theorem ok565 : compF prog 565 = some cf565:=by kernel_rfl
theorem ac565 : acB prog 565 = true:=by decide +kernel
def cf577 : CF:=⟨sO [d260] (sO [qI 1 (.bslice 10 1 [.sc (.str ⟨#[]⟩)] [(0,(1,.const (.string ⟨#[107,105,110,100]⟩))),(1,(1,.const (.string ⟨#[109,101,97,115,117,114,101]⟩))),(2,(1,.const (.string ⟨#[115,116,97,102,102]⟩))),(3,(1,.const (.string ⟨#[118,111,105,99,101]⟩))),(4,(1,.const (.string ⟨#[105,110,100,101,120]⟩))),(5,(1,.const (.string ⟨#[97,116]⟩))),(6,(1,.const (.string ⟨#[108,101,110,103,116,104]⟩))),(7,(1,.const (.string ⟨#[104,101,97,100,115]⟩))),(8,(1,.const (.string ⟨#[110,117,109,98,101,114]⟩))),(9,(1,.const (.string ⟨#[100,121,110,97,109,105,99]⟩)))]),mI 0 1] .ret),2,[.tmp 0]⟩
theorem ok577 : compF prog 577 = some cf577:=by kernel_rfl
theorem ac577 : acB prog 577 = true:=by decide +kernel
def cf578 : CF:=⟨sO [d105] (sO [d7,qI 5 d52,d89,qI 7 (.call 579 [z4,z6]),mI 3 7] .ret),8,[.tmp 3]⟩
theorem ok578 : compF prog 578 = some cf578:=by kernel_rfl
theorem ac578 : acB prog 578 = true:=by decide +kernel
def cf579 : CF:=⟨sO [d103] (sO [mI 23 0,qI 24 (.nilc z23),d172,d173,mI 27 0,d304,⟨some 28,none,.call 140 [z27],[.loadN 6 z25]⟩,qI 29 (.call 325 [z26,z28]),mI 22 29,qI 30 (.ext z22 0),qI 31 (.ext z22 1),nI (.store 7 z5 z30),mI 6 31] (.seq (sO [mI 32 6,qI 33 (.not z32)] (.cond z33 d246 .skip)) (sO [qI 34 d50,qI 35 (.load1 z34),qI 36 (.bint .eql z35 (cI 4)),mI 7 36] (.seq (.block 0 (sO [mI 38 1,qI 39 (.bstr .eql z38 (.const (.string ⟨#[107,105,110,100]⟩))),mI 37 39] (.cond z37 (sO [qI 40 d50,d162,mI 4 41] .ret) (sO [mI 43 1,qI 44 (.bstr .eql z43 (.const (.string ⟨#[109,101,97,115,117,114,101]⟩))),mI 45 44,vI 46 45 (.mv z7),vI 47 45 (.mv z46),uI 48 47 d50,uI 49 47 (.load1 z48),uI 50 47 (.bint .eql z49 (cI 3)),vI 51 45 (.pick z47 bT z50),qI 52 (.pick z45 z51 bF),mI 42 52] (.cond z42 (sO [qI 53 (.faddr 3 z5),d138,mI 4 54] .ret) (sO [mI 56 1,qI 57 (.bstr .eql z56 (.const (.string ⟨#[115,116,97,102,102]⟩))),mI 58 57,vI 59 58 (.mv z7),vI 60 58 (.mv z59),uI 61 60 d50,uI 62 60 (.load1 z61),uI 63 60 (.bint .eql z62 (cI 2)),vI 64 58 (.pick z60 bT z63),qI 65 (.pick z58 z64 bF),mI 55 65] (.cond z55 (sO [qI 66 (.faddr 2 z5),qI 67 (.load1 z66),mI 4 67] .ret) (sO [mI 69 1,qI 70 (.bstr .eql z69 (.const (.string ⟨#[108,101,110,103,116,104]⟩))),mI 71 70,vI 72 71 d50,vI 73 71 d34,vI 74 71 (.bint .eql z73 (cI 3)),qI 75 (.pick z71 z74 bF),mI 68 75] (.cond z68 (sO [mI 77 0,qI 78 (.nilc z77),qI 79 (.faddr 0 z78),qI 80 (.faddr 3 z79),qI 81 (.load1 z80),qI 82 (.faddr 3 z5),qI 83 (.load1 z82),qI 84 (.iaddr 22 z81 z83),qI 85 (.loadN 22 z84),qI 86 (.call 165 [z85]),mI 76 86,qI 87 (.ext z76 0),qI 88 (.ext z76 1),mI 8 87,mI 9 88] (sO [mI 89 8,mI 4 89] .ret)) (sO [mI 91 7,qI 92 (.not z91),mI 90 92] (.cond z90 d246 .skip))))))))))) (sO [mI 94 0,qI 95 (.nilc z94),qI 96 (.faddr 0 z95),qI 97 (.loadN 6 z96),qI 98 (.loadN 7 z5),qI 10 d308,qI 99 (.call 185 [z97,z98]),mI 93 99,qI 100 (.ext z93 0),qI 101 (.ext z93 1),nI (.store 13 z10 z100),mI 11 101] (sO [mI 102 0,qI 103 (.nilc z102),qI 104 (.faddr 0 z103),qI 105 (.faddr 3 z104),qI 106 (.load1 z105),qI 107 (.faddr 3 z5),qI 108 (.load1 z107),qI 109 (.iaddr 22 z106 z108),qI 110 (.loadN 22 z109),qI 12 d315,nI (.store 22 z12 z110)] (sO [qI 112 (.loadN 22 z12),qI 113 (.call 165 [z112]),mI 111 113,qI 114 (.ext z111 0),qI 115 (.ext z111 1),mI 13 114,mI 14 115] (sO [qI 116 (.faddr 21 z12),qI 117 (.load1 z116),qI 118 (.faddr 2 z5),qI 119 (.load1 z118),qI 120 (.iaddr 2 z117 z119),qI 121 (.faddr 1 z120),qI 122 (.load1 z121),qI 123 (.faddr 4 z5),qI 124 (.load1 z123),qI 125 (.iaddr 2 z122 z124),qI 126 (.loadN 2 z125),qI 15 d238,nI (.store 2 z15 z126)] (.seq (sO [mI 127 1] (.block 1 (sO [qI 129 (.bstr .eql z127 (.const (.string ⟨#[118,111,105,99,101]⟩))),mI 128 129] (.cond z128 (sO [qI 130 (.faddr 4 z5),qI 131 (.load1 z130),mI 4 131] .ret) (sO [qI 133 (.bstr .eql z127 (.const (.string ⟨#[105,110,100,101,120]⟩))),mI 132 133] (.cond z132 (sO [qI 134 (.faddr 5 z5),qI 135 (.load1 z134),mI 4 135] .ret) (sO [qI 137 (.bstr .eql z127 (.const (.string ⟨#[97,116]⟩))),mI 136 137] (.cond z136 (sO [qI 139 (.loadN 2 z15),mI 140 13,qI 141 (.call 391 [z139,z140]),mI 138 141,qI 142 (.ext z138 0),qI 143 (.ext z138 1),mI 16 142,mI 17 143] (sO [mI 144 16,qI 145 (.faddr 5 z5),qI 146 (.load1 z145),qI 147 (.iaddr 1 z144 z146),qI 148 (.load1 z147),mI 4 148] .ret)) (sO [qI 150 (.bstr .eql z127 (.const (.string ⟨#[108,101,110,103,116,104]⟩))),mI 149 150] (.cond z149 (sO [qI 152 (.loadN 2 z15),mI 153 13,qI 154 (.call 603 [z152,z153]),mI 151 154,qI 155 (.ext z151 0),qI 156 (.ext z151 1),mI 18 155,mI 19 156] (sO [mI 157 18,qI 158 (.faddr 5 z5),qI 159 (.load1 z158),qI 160 (.iaddr 1 z157 z159),qI 161 (.load1 z160),mI 4 161] .ret)) (sO [qI 163 (.bstr .eql z127 (.const (.string ⟨#[104,101,97,100,115]⟩))),mI 162 163] (.cond z162 (sO [qI 164 (.faddr 5 z10),qI 165 (.load1 z164),qI 166 (.len z165),mI 4 166] .ret) (sO [qI 168 (.bstr .eql z127 (.const (.string ⟨#[100,121,110,97,109,105,99]⟩))),mI 167 168] (.cond z167 (sO [qI 169 (.faddr 9 z10),qI 170 (.load1 z169),mI 4 170] .ret) (sO [qI 172 (.bstr .eql z127 (.const (.string ⟨#[110,117,109,98,101,114]⟩))),mI 171 172] (.cond z171 (sO [qI 173 (.faddr 5 z10),qI 174 (.load1 z173),qI 175 (.len z174),qI 176 (.bint .gtr z175 (cI 0))] (.cond z176 (sO [qI 178 (.faddr 5 z10),qI 179 (.load1 z178),qI 180 (.iaddr 5 z179 (cI 0)),qI 181 (.faddr 0 z180),qI 182 (.loadN 3 z181),qI 183 (.call 177 [z182]),mI 177 183,qI 184 (.ext z177 0),qI 185 (.ext z177 1),mI 20 184,mI 21 185] (sO [mI 186 20,mI 4 186] .ret)) .skip)) .skip)))))))))))))))) d246))))))))),187,[.tmp 4]⟩
theorem ok579 : compF prog 579 = some cf579:=by kernel_rfl
theorem ac579 : acB prog 579 = true:=by decide +kernel
def cf580 : CF:=⟨sO [d70,d258,d261] (sO [qI 17 d38,qI 18 (.call 157 [z17]),mI 4 18] (sO [d262] (sO [d100] (.seq (sO [qI 19 d35,d123,qI 21 (.len z20),qI 22 d29] (.block 0 (.loop (sO [qI 23 (.bint .lss z22 z21)] (.seq (.cond z23 .skip d10) (.seq (.block 1 (sO [mI 24 22,qI 25 (.iaddr 6 z20 z22),d173,d291,mI 7 24,nI (.store 6 z8 z26)] (sO [mI 27 5,mI 28 7,qI 29 (.build [.sc (.int .i64 0),.sc (.int .i64 0),.sc (.int .i64 0),.sc (.int .i64 0),.sc (.int .i64 0),.sc (.int .i64 0),.sc (.int .i64 0)] [(0,(1,cI 1)),(1,(1,z28))]),qI 30 (.bslice 1 7 [.sc (.int .i64 0),.sc (.int .i64 0),.sc (.int .i64 0),.sc (.int .i64 0),.sc (.int .i64 0),.sc (.int .i64 0),.sc (.int .i64 0)] [(0,(7,z29))]),qI 31 (.app 7 56 z27 z30),mI 5 31] (sO [qI 32 (.faddr 5 z8),d147,qI 34 (.len z33),qI 35 d29] (.block 2 (.loop (sO [qI 36 (.bint .lss z35 z34)] (.seq (.cond z36 .skip d11) (.seq (.block 3 (sO [mI 37 5,mI 38 6,qI 39 (.build [.sc (.int .i64 0),.sc (.int .i64 0),.sc (.int .i64 0),.sc (.int .i64 0),.sc (.int .i64 0),.sc (.int .i64 0),.sc (.int .i64 0)] [(0,(1,cI 2)),(2,(1,z38))]),qI 40 (.bslice 1 7 [.sc (.int .i64 0),.sc (.int .i64 0),.sc (.int .i64 0),.sc (.int .i64 0),.sc (.int .i64 0),.sc (.int .i64 0),.sc (.int .i64 0)] [(0,(7,z39))]),qI 41 (.app 7 56 z37 z40),mI 5 41] (.ops [mI 42 6,qI 43 (.bint .add z42 (cI 1)),mI 6 43]))) (.ops [qI 44 (.bint .add z35 (cI 1)),mI 35 44])))))))))) (.ops [qI 45 (.bint .add z22 (cI 1)),mI 22 45]))))))) (.seq (sO [qI 46 d36,d153,qI 48 (.len z47),d154] (.block 4 (.loop (sO [d229] (.seq (.cond z50 .skip d23) (.seq (.block 5 (sO [mI 51 49,qI 52 (.iaddr 22 z47 z49),qI 53 (.loadN 22 z52),qI 10 d315,mI 9 51,nI (.store 22 z10 z53)] (sO [mI 54 5,mI 55 9,qI 56 (.build [.sc (.int .i64 0),.sc (.int .i64 0),.sc (.int .i64 0),.sc (.int .i64 0),.sc (.int .i64 0),.sc (.int .i64 0),.sc (.int .i64 0)] [(0,(1,cI 3)),(3,(1,z55))]),qI 57 (.bslice 1 7 [.sc (.int .i64 0),.sc (.int .i64 0),.sc (.int .i64 0),.sc (.int .i64 0),.sc (.int .i64 0),.sc (.int .i64 0),.sc (.int .i64 0)] [(0,(7,z56))]),qI 58 (.app 7 56 z54 z57),mI 5 58] (sO [qI 59 (.faddr 21 z10),d140,qI 61 (.len z60),qI 62 d29] (.block 6 (.loop (sO [qI 63 (.bint .lss z62 z61)] (.seq (.cond z63 .skip (.exit 6)) (.seq (.block 7 (sO [mI 64 62,qI 65 (.iaddr 2 z60 z62),qI 66 (.loadN 2 z65),qI 12 d238,mI 11 64,nI (.store 2 z12 z66)] (sO [qI 67 (.faddr 1 z12),qI 68 (.load1 z67),qI 69 (.len z68),qI 70 d29] (.block 8 (.loop (sO [qI 71 (.bint .lss z70 z69)] (.seq (.cond z71 .skip (.exit 8)) (.seq (.block 9 (sO [mI 72 70,qI 73 (.iaddr 2 z68 z70),qI 74 (.loadN 2 z73),qI 14 d238,mI 13 72,nI (.store 2 z14 z74)] (sO [qI 75 (.faddr 0 z14),d159,qI 77 (.len z76),qI 78 d29] (.block 10 (.loop (sO [qI 79 (.bint .lss z78 z77)] (.seq (.cond z79 .skip (.exit 10)) (.seq (.block 11 (sO [mI 80 78,mI 15 80] (.ops [mI 81 5,mI 82 9,mI 83 11,mI 84 13,mI 85 15,qI 86 (.build [.sc (.int .i64 0),.sc (.int .i64 0),.sc (.int .i64 0),.sc (.int .i64 0),.sc (.int .i64 0),.sc (.int .i64 0),.sc (.int .i64 0)] [(0,(1,cI 4)),(3,(1,z82)),(2,(1,z83)),(4,(1,z84)),(5,(1,z85))]),qI 87 (.bslice 1 7 [.sc (.int .i64 0),.sc (.int .i64 0),.sc (.int .i64 0),.sc (.int .i64 0),.sc (.int .i64 0),.sc (.int .i64 0),.sc (.int .i64 0)] [(0,(7,z86))]),qI 88 (.app 7 56 z81 z87),mI 5 88]))) (.ops [qI 89 (.bint .add z78 (cI 1)),mI 78 89]))))))))) (.ops [qI 90 (.bint .add z70 (cI 1)),mI 70 90]))))))))) (.ops [qI 91 (.bint .add z62 (cI 1)),mI 62 91])))))))))) (.ops [qI 92 d196,mI 49 92]))))))) (.seq (sO [qI 93 (.faddr 4 z1),qI 94 (.load1 z93),qI 95 (.len z94),qI 96 d29] (.block 12 (.loop (sO [qI 97 (.bint .lss z96 z95)] (.seq (.cond z97 .skip (.exit 12)) (.seq (.block 13 (sO [mI 98 96,mI 16 98] (.ops [mI 99 5,mI 100 16,qI 101 (.build [.sc (.int .i64 0),.sc (.int .i64 0),.sc (.int .i64 0),.sc (.int .i64 0),.sc (.int .i64 0),.sc (.int .i64 0),.sc (.int .i64 0)] [(0,(1,cI 5)),(6,(1,z100))]),qI 102 (.bslice 1 7 [.sc (.int .i64 0),.sc (.int .i64 0),.sc (.int .i64 0),.sc (.int .i64 0),.sc (.int .i64 0),.sc (.int .i64 0),.sc (.int .i64 0)] [(0,(7,z101))]),qI 103 (.app 7 56 z99 z102),mI 5 103]))) (.ops [qI 104 (.bint .add z96 (cI 1)),mI 96 104]))))))) (sO [mI 105 5,mI 106 4,mI 2 105,mI 3 106] .ret))))))),107,[.tmp 2,.tmp 3]⟩
theorem ok580 : compF prog 580 = some cf580:=by kernel_rfl
theorem ac580 : acB prog 580 = true:=by decide +kernel
def cf581 : CF:=⟨sO [d75,qI 5 (.box z2),d65] (sO [qI 10 (.build [.sc (.int .i64 0),.sc (.int .i64 0),.sc (.int .i64 0),.sc (.int .i64 0),.sc (.int .i64 0),.sc (.int .i64 0),.sc (.int .i64 0)] [(0,(1,cI 1)),(1,(1,cI 2)),(2,(1,cI 3)),(3,(1,cI 4)),(4,(1,cI 4)),(5,(1,cI 4)),(6,(1,cI 5))]),d306,nI (.store 7 z7 z10)] (.seq (sO [qI 11 d50,d125,d22,d108,d175,d126,qI 17 (.iaddrA 7 1 z7 z16),d127,qI 19 (.bint .neq z12 z18)] (.cond z19 d202 .skip)) (.seq (sO [mI 20 0,qI 21 (.nilc z20),d176,d148,qI 24 (.bint .lss z23 (cI 4)),mI 25 24,uI 26 25 d3,uI 27 25 (.nilc z26),uI 28 25 (.faddr 0 z27),uI 29 25 (.load1 z28),uI 30 25 (.bint .gtr z29 (cI 5)),qI 31 (.pick z25 bT z30)] (.cond z31 d203 .skip)) (sO [qI 33 (.loadN 6 z4),qI 34 (.loadN 7 z5),qI 35 (.call 185 [z33,z34]),mI 32 35,qI 36 (.ext z32 0),qI 37 (.ext z32 1),d309,nI (.store 13 z8 z36),mI 9 37] (sO [qI 38 (.faddr 2 z8),d149,qI 40 (.bint .eql z39 (cI 1)),mI 41 0,qI 42 (.nilc z41),qI 43 (.faddr 0 z42),d150,qI 45 (.bint .eql z44 (cI 4)),qI 46 (.bbool false z40 z45),mI 6 46] .ret))))),47,[.tmp 6]⟩
theorem ok581 : compF prog 581 = some cf581:=by kernel_rfl
theorem ac581 : acB prog 581 = true:=by decide +kernel
def cf582 : CF:=⟨sO [d70,d240] (sO [qI 3 (.mkf (.func 604) [] [z1]),mI 2 3] .ret),4,[.tmp 2]⟩
theorem ok582 : compF prog 582 = some cf582:=by kernel_rfl
theorem ac582 : acB prog 582 = true:=by decide +kernel
def cf584 : CF:=⟨sO [d71,d68] (.seq (.block 0 (.loop (.seq (sO [d94,qI 6 (.len z5),qI 7 (.bint .gtr z6 (cI 0)),mI 8 7,vI 9 8 d26,vI 10 8 d26,vI 11 8 (.len z10),vI 12 8 (.bint .sub z11 (cI 1)),vI 13 8 (.iaddr 4 z9 z12),vI 14 8 (.loadN 4 z13),vI 16 8 d39,vI 17 8 (.load1 z16),⟨some 15,some (some 8,true),.call 585 [z14],[.load1 z16]⟩,vI 18 8 (.bint .leq z15 z17),qI 19 (.pick z8 z18 bF)] d223) (.block 1 (.ops [qI 20 d26,qI 21 d26,d95,qI 23 (.bint .sub z22 (cI 1)),qI 24 (.slc 4 z20 none (some z23)),nI (.store 1 z1 z24)]))))) (.seq (sO [qI 25 d26,qI 26 (.len z25),mI 4 26] (sO [mI 27 4,qI 28 (.bint .eql z27 (cI 3)),mI 29 28,uI 30 29 (.mv z4),uI 31 29 (.bint .gtr z30 (cI 0)),uI 32 29 (.mv z31),vI 33 32 (.loadN 4 z2),vI 35 32 d26,vI 36 32 (.mv z4),vI 37 32 (.bint .sub z36 (cI 1)),vI 38 32 (.iaddr 4 z35 z37),vI 39 32 (.loadN 4 z38),⟨some 34,some (some 32,true),.call 585 [z33],[.loadN 4 z38,.load1 z1]⟩,vI 40 32 (.call 585 [z39]),vI 41 32 (.bint .gtr z34 z40),uI 42 29 (.pick z32 z41 bF),qI 43 (.pick z29 bT z42)] (.cond z43 (sO [d68] .ret) .skip))) (sO [qI 44 d26,qI 45 (.loadN 4 z2),qI 46 (.bslice 1 4 [.sc (.int .i64 0),.sc (.int .i64 0),.sc (.int .i64 0),.sc (.int .i64 0)] [(0,(4,z45))]),qI 47 (.app 4 32 z44 z46),nI (.store 1 z1 z47)] (sO [qI 3 (.mv bT)] .ret)))),48,[.tmp 3]⟩
theorem ok584 : compF prog 584 = some cf584:=by kernel_rfl
theorem ac584 : acB prog 584 = true:=by decide +kernel
def cf588 : CF:=⟨sO [d103,d107] (sO [d109,qI 5 d31] (.seq (sO [d6,qI 10 (.len z9),qI 11 d29] (.block 0 (.loop (sO [qI 12 (.bint .lss z11 z10)] (.seq d220 (.seq (.block 1 (sO [qI 13 (.iaddr 4 z9 z11),qI 14 (.loadN 4 z13),qI 7 d284,nI (.store 4 z7 z14)] (sO [qI 15 (.loadN 4 z7),mI 16 1,qI 17 (.call 583 [z15,z16])] (.cond z17 (sO [mI 18 4,qI 19 (.faddr 3 z7),d123,qI 21 (.bint .mul z18 z20),mI 22 5,qI 23 (.faddr 2 z7),d129,qI 25 (.bint .mul z22 z24),mI 4 21,mI 5 25] (sO [mI 26 4,mI 27 5,qI 28 (.call 605 [z26,z27]),mI 8 28] (.ops [mI 29 4,mI 30 8,qI 31 (.bint .quo z29 z30),mI 32 5,mI 33 8,qI 34 (.bint .quo z32 z33),mI 4 31,mI 5 34]))) .skip)))) (.ops [qI 35 d191,mI 11 35]))))))) (sO [mI 36 4,mI 37 5,mI 4 36,mI 5 37] .ret))),38,[.tmp 4,.tmp 5]⟩
theorem ok588 : compF prog 588 = some cf588:=by kernel_rfl
theorem ac588 : acB prog 588 = true:=by decide +kernel
def cf604 : CF:=⟨sO [qI 4 d26,qI 5 (.len z4),qI 6 (.bint .sub z5 (cI 1)),mI 3 6] (.block 0 (.loop (.seq (sO [mI 7 3,d234] (.cond z8 .skip d10)) (.seq (.block 1 (sO [d14,mI 12 3,qI 13 d26,mI 14 3,qI 15 (.iaddr 1 z13 z14),d126,qI 17 (.callv z11 [z12,z16]),qI 18 (.not z17)] (.cond z18 .ret .skip))) (.ops [mI 9 3,qI 10 (.bint .sub z9 (cI 1)),mI 3 10]))))),19,[]⟩
theorem ok604 : compF prog 604 = some cf604:=by kernel_rfl
theorem ac604 : acB prog 604 = true:=by decide +kernel
def cf633 : CF:=⟨sO [mI 8 1,d6,d97,d178,d125,qI 13 (.call 554 [z8,z12]),d87,d122] (.block 0 (.loop (sO [d226] (.seq d219 (.seq (.block 1 (sO [d211,d168,qI 5 d270,nI (.store 2 z5 z18)] (.seq (sO [d18,qI 21 (.nilc z20),d176,qI 23 (.loadN 6 z22),qI 24 d40,d305,qI 25 (.call 325 [z23,z24]),mI 19 25,qI 26 (.ext z19 0),qI 27 (.ext z19 1),nI (.store 7 z6 z26),mI 7 27] (sO [mI 28 7,qI 29 (.not z28)] (.cond z29 (.exit 1) .skip))) (.seq (sO [mI 30 1,qI 31 (.call 47 [z30]),qI 32 (.not z31)] (.cond z32 .ret .skip)) (sO [mI 33 1,mI 34 1,qI 35 (.nilc z34),qI 36 (.faddr 13 z35),d136,qI 38 d40,qI 39 (.bslice 1 2 [.sc (.int .i64 0),.sc (.int .i64 0)] [(0,(2,z38))]),qI 40 (.app 2 16 z37 z39),qI 41 (.nilc z33),qI 42 (.faddr 13 z41),nI (.store 1 z42 z40)] (sO [mI 43 1,mI 44 0,qI 45 (.nilc z44),qI 46 (.faddr 1 z45),d153,qI 48 (.call 20 [z43,z47])] (.ops [mI 49 1,mI 50 1,qI 51 (.nilc z50),qI 52 (.faddr 13 z51),d165,mI 54 1,qI 55 (.nilc z54),qI 56 (.faddr 13 z55),d139,qI 58 (.len z57),qI 59 (.bint .sub z58 (cI 1)),qI 60 (.slc 2 z53 none (some z59)),qI 61 (.nilc z49),qI 62 (.faddr 13 z61),nI (.store 1 z62 z60)]))))))) (.ops [qI 63 d186,mI 15 63])))))),64,[]⟩
theorem ok633 : compF prog 633 = some cf633:=by kernel_rfl
theorem ac633 : acB prog 633 = true:=by decide +kernel
def cf634 : CF:=⟨sO [d4,d79,d151,d88,mI 9 1,d200,mI 4 10] (sO [d20,d99,qI 13 (.faddr 14 z12),d112,qI 15 (.bint .eql z14 (cI 0))] (.cond z15 (.ops [mI 16 1,mI 17 0,qI 18 (.nilc z17),qI 19 (.faddr 0 z18),d123,qI 21 (.call 556 [z16,z20]),mI 22 4,qI 23 (.nilc z21),d192]) .skip)),24,[]⟩
theorem ok634 : compF prog 634 = some cf634:=by kernel_rfl
theorem ac634 : acB prog 634 = true:=by decide +kernel
def cf635 : CF:=⟨sO [d4,d79,d151,d88,mI 9 1,d200,qI 4 d227,nI (.store 1 z4 z10)] (.ops [d20,d99,qI 13 (.faddr 12 z12),d112,mI 15 1,d111,qI 17 (.faddr 12 z16),d127,d96,qI 20 (.bint .sub z19 (cI 1)),qI 21 (.iaddr 1 z14 z20),d128,mI 23 0,qI 24 (.nilc z23),d172,d130,nI (.mpup false [.str] z22 z26 z4)]),27,[]⟩
theorem ok635 : compF prog 635 = some cf635:=by kernel_rfl
theorem ac635 : acB prog 635 = true:=by decide +kernel
def cf636 : CF:=⟨sO [mI 5 0,qI 6 (.nilc z5),qI 7 (.faddr 1 z6),qI 8 (.load1 z7),mI 4 8] (.seq (sO [mI 9 0,qI 10 (.nilc z9),qI 11 (.faddr 0 z10),qI 12 (.load1 z11),qI 13 (.not z12)] (.cond z13 (.ops [mI 14 0,qI 15 (.nilc z14),qI 16 (.faddr 2 z15),qI 17 (.load1 z16),mI 18 1,qI 19 (.callv z17 [z18]),qI 20 (.call 248 [z19]),mI 4 20]) .skip)) (.block 0 (sO [mI 33 1,qI 34 (.nilc z33),qI 35 (.faddr 14 z34),qI 36 (.load1 z35),qI 37 (.bint .neq z36 (cI 0)),mI 32 37] (.cond z32 .skip (sO [mI 39 1,qI 40 (.nilc z39),qI 41 (.faddr 11 z40),qI 42 (.load1 z41),qI 43 (.len z42),mI 44 4,qI 45 (.lenS z44),qI 46 (.bint .add z43 z45),qI 47 (.bint .add z46 (cI 1)),qI 48 (.bint .gtr z47 (cI 65536)),mI 38 48] (.cond z38 (.ops [mI 49 1,qI 50 (.call 104 [z49,cI 9])]) (.ops [mI 21 1,mI 22 1,qI 23 (.nilc z22),qI 24 (.faddr 11 z23),qI 25 (.load1 z24),mI 26 4,qI 27 (.app 1 1 z25 z26),qI 28 (.bslice 1 1 [.sc (.int .u8 0)] [(0,(1,.const (.int .u8 10)))]),qI 29 (.app 1 1 z27 z28),qI 30 (.nilc z21),qI 31 (.faddr 11 z30),nI (.store 1 z31 z29)]))))))),51,[]⟩
theorem ok636 : compF prog 636 = some cf636:=by kernel_rfl
theorem ac636 : acB prog 636 = true:=by decide +kernel
def cf644 : CF:=⟨sO [d72,d103] (.seq (sO [d0,d73,d104] (.block 0 (.loop (sO [d206] (.seq d213 (.seq (.block 1 (sO [mI 10 8,mI 5 10] (sO [qI 11 d46,d21,mI 13 5,qI 14 (.iaddr 2 z12 z13),d177,qI 16 (.bagg false [.int,.int] z11 z15)] d267))) d268)))))) d246),19,[.tmp 4]⟩
theorem ok644 : compF prog 644 = some cf644:=by kernel_rfl
theorem ac644 : acB prog 644 = true:=by decide +kernel
def cf651 : CF:=⟨d321,19,[.tmp 4]⟩
theorem ok651 : compF prog 651 = some cf651:=by kernel_rfl
theorem ac651 : acB prog 651 = true:=by decide +kernel
end Go.Hem
