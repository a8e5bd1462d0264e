/- Part 23 of the proof: Lay19p, ItoaW, IdxW, SplM, XC19, PlC19. -/
import Derived.Test.YtmcmhjdmilgoeaaGreatDoorFlttxtZ22
import Derived.Shelf.Strings.Split
import Derived.Shelf.Strconv.Itoa3
import Derived.Shelf.Small.Strs
import Derived.Shelf.Strconv.AtoiAll
import Derived.Shelf.Strings.FieldsFuncGrows
import Derived.Test.YtmcmhjdmilgoeaaGreatDoorProg
import Derived.Lib.Bytealg
namespace Go.Proofs
open Go.Shelf
def Tryz.lays146_ren : Go.Shelf.Ren := ⟨fun | 146 => 69 | 221 => 94 | 268 => 118 | 138 => 119 | 143 => 120 | 195 => 145 | 197 => 146 | 218 => 147 | 219 => 148 | 260 => 158 | 217 => 122 | 225 => 159 | 224 => 160 | 267 => 161 | 266 => 150 | 314 => 172 | n => n, fun | 9 => 9 | 31 => 71 | 3 => 3 | 4 => 4 | 0 => 0 | 105 => 151 | 21 => 21 | 5 => 5 | 46 => 104 | 119 => 176 | 139 => 179 | 138 => 178 | 146 => 180 | 51 => 115 | n => n, fun | 1 => 1 | 3 => 2 | 4 => 3 | n => n⟩
theorem Tryz.lays146 : Go.Proofs.Lays.n146 Tryz.prog Tryz.lays146_ren := {
  mixed := by kernel_rfl
  f138 := Tryz.func119.trans (congrArg some (by kernel_rfl))
  f143 := Tryz.func120.trans (congrArg some (by kernel_rfl))
  f146 := Tryz.func69.trans (congrArg some (by kernel_rfl))
  f195 := Tryz.func145.trans (congrArg some (by kernel_rfl))
  f197 := Tryz.func146.trans (congrArg some (by kernel_rfl))
  f217 := Tryz.func122.trans (congrArg some (by kernel_rfl))
  f218 := Tryz.func147.trans (congrArg some (by kernel_rfl))
  f219 := Tryz.func148.trans (congrArg some (by kernel_rfl))
  f221 := Tryz.func94.trans (congrArg some (by kernel_rfl))
  f224 := Tryz.func160.trans (congrArg some (by kernel_rfl))
  f225 := Tryz.func159.trans (congrArg some (by kernel_rfl))
  f260 := Tryz.func158.trans (congrArg some (by kernel_rfl))
  f266 := Tryz.func150.trans (congrArg some (by kernel_rfl))
  f267 := Tryz.func161.trans (congrArg some (by kernel_rfl))
  f268 := Tryz.func118.trans (congrArg some (by kernel_rfl))
  f314 := Tryz.func172.trans (congrArg some (by kernel_rfl))
  t0 := Tryz.underlying0
  a0 := Tryz.isAgg0
  z0 := Tryz.sizeOf0
  v0 := Tryz.zeroValue0
  t3 := Tryz.underlying3
  a3 := Tryz.isAgg3
  z3 := Tryz.sizeOf3
  v3 := Tryz.zeroValue3
  t4 := Tryz.underlying4
  a4 := Tryz.isAgg4
  z4 := Tryz.sizeOf4
  v4 := Tryz.zeroValue4
  t5 := Tryz.underlying5
  a5 := Tryz.isAgg5
  z5 := Tryz.sizeOf5
  v5 := Tryz.zeroValue5
  t9 := Tryz.underlying9
  a9 := Tryz.isAgg9
  z9 := Tryz.sizeOf9
  v9 := Tryz.zeroValue9
  t21 := Tryz.underlying21
  a21 := Tryz.isAgg21
  z21 := Tryz.sizeOf21
  v21 := Tryz.zeroValue21
  t31 := Tryz.underlying71
  a31 := Tryz.isAgg71
  z31 := Tryz.sizeOf71
  v31 := Tryz.zeroValue71
  t46 := Tryz.underlying104
  a46 := Tryz.isAgg104
  z46 := Tryz.sizeOf104
  v46 := Tryz.zeroValue104
  t51 := Tryz.underlying115
  a51 := Tryz.isAgg115
  z51 := Tryz.sizeOf115
  v51 := Tryz.zeroValue115
  t105 := Tryz.underlying151
  a105 := Tryz.isAgg151
  z105 := Tryz.sizeOf151
  v105 := Tryz.zeroValue151
  t119 := Tryz.underlying176
  a119 := Tryz.isAgg176
  z119 := Tryz.sizeOf176
  t138 := Tryz.underlying178
  a138 := Tryz.isAgg178
  z138 := Tryz.sizeOf178
  v138 := Tryz.zeroValue178
  t139 := Tryz.underlying179
  a139 := Tryz.isAgg179
  z139 := Tryz.sizeOf179
  v139 := Tryz.zeroValue179
  t146 := Tryz.underlying180
  a146 := Tryz.isAgg180
  z146 := Tryz.sizeOf180
  v146 := Tryz.zeroValue180
  g1 := by kernel_rfl
  g3 := by kernel_rfl
  g4 := by kernel_rfl }
def Tryz.lays171_ren : Go.Shelf.Ren := ⟨fun | 171 => 102 | 243 => 137 | 246 => 156 | 283 => 168 | 284 => 169 | 285 => 170 | 286 => 171 | 129 => 114 | 317 => 176 | 318 => 177 | 319 => 178 | 320 => 179 | 337 => 182 | 338 => 183 | n => n, fun | 3 => 3 | 9 => 9 | 2 => 2 | 4 => 4 | 171 => 172 | 0 => 0 | 53 => 129 | 37 => 93 | 5 => 5 | 173 => 174 | 212 => 189 | 51 => 115 | 20 => 20 | 213 => 190 | 46 => 104 | 232 => 158 | 233 => 195 | n => n, fun | 17 => 6 | 18 => 0 | 19 => 7 | n => n⟩
theorem Tryz.lays171 : Go.Proofs.LaysM.n171 Tryz.prog Tryz.lays171_ren := {
  mixed := by kernel_rfl
  f129 := Tryz.func114.trans (congrArg some (by kernel_rfl))
  f171 := Tryz.func102.trans (congrArg some (by kernel_rfl))
  f243 := Tryz.func137.trans (congrArg some (by kernel_rfl))
  f246 := Tryz.func156.trans (congrArg some (by kernel_rfl))
  f283 := Tryz.func168.trans (congrArg some (by kernel_rfl))
  f284 := Tryz.func169.trans (congrArg some (by kernel_rfl))
  f285 := Tryz.func170.trans (congrArg some (by kernel_rfl))
  f286 := Tryz.func171.trans (congrArg some (by kernel_rfl))
  f317 := Tryz.func176.trans (congrArg some (by kernel_rfl))
  f318 := Tryz.func177.trans (congrArg some (by kernel_rfl))
  f319 := Tryz.func178.trans (congrArg some (by kernel_rfl))
  f320 := Tryz.func179.trans (congrArg some (by kernel_rfl))
  f337 := Tryz.func182.trans (congrArg some (by kernel_rfl))
  f338 := Tryz.func183.trans (congrArg some (by kernel_rfl))
  t0 := Tryz.underlying0
  a0 := Tryz.isAgg0
  z0 := Tryz.sizeOf0
  v0 := Tryz.zeroValue0
  t2 := Tryz.underlying2
  a2 := Tryz.isAgg2
  z2 := Tryz.sizeOf2
  v2 := Tryz.zeroValue2
  t3 := Tryz.underlying3
  a3 := Tryz.isAgg3
  z3 := Tryz.sizeOf3
  v3 := Tryz.zeroValue3
  t4 := Tryz.underlying4
  a4 := Tryz.isAgg4
  z4 := Tryz.sizeOf4
  v4 := Tryz.zeroValue4
  t5 := Tryz.underlying5
  a5 := Tryz.isAgg5
  z5 := Tryz.sizeOf5
  v5 := Tryz.zeroValue5
  t9 := Tryz.underlying9
  a9 := Tryz.isAgg9
  z9 := Tryz.sizeOf9
  v9 := Tryz.zeroValue9
  t20 := Tryz.underlying20
  a20 := Tryz.isAgg20
  z20 := Tryz.sizeOf20
  v20 := Tryz.zeroValue20
  t37 := Tryz.underlying93
  a37 := Tryz.isAgg93
  z37 := Tryz.sizeOf93
  v37 := Tryz.zeroValue93
  t46 := Tryz.underlying104
  a46 := Tryz.isAgg104
  z46 := Tryz.sizeOf104
  v46 := Tryz.zeroValue104
  t51 := Tryz.underlying115
  a51 := Tryz.isAgg115
  z51 := Tryz.sizeOf115
  v51 := Tryz.zeroValue115
  t53 := Tryz.underlying129
  a53 := Tryz.isAgg129
  z53 := Tryz.sizeOf129
  v53 := Tryz.zeroValue129
  t171 := Tryz.underlying172
  a171 := Tryz.isAgg172
  z171 := Tryz.sizeOf172
  v171 := Tryz.zeroValue172
  t173 := Tryz.underlying174
  a173 := Tryz.isAgg174
  z173 := Tryz.sizeOf174
  v173 := Tryz.zeroValue174
  t212 := Tryz.underlying189
  a212 := Tryz.isAgg189
  z212 := Tryz.sizeOf189
  v212 := Tryz.zeroValue189
  t213 := Tryz.underlying190
  a213 := Tryz.isAgg190
  z213 := Tryz.sizeOf190
  t232 := Tryz.underlying158
  a232 := Tryz.isAgg158
  z232 := Tryz.sizeOf158
  v232 := Tryz.zeroValue158
  t233 := Tryz.underlying195
  a233 := Tryz.isAgg195
  z233 := Tryz.sizeOf195
  v233 := Tryz.zeroValue195
  g17 := by kernel_rfl
  g18 := by kernel_rfl
  g19 := by kernel_rfl
  i0 := by kernel_rfl
  i2 := by kernel_rfl
  i3 := by kernel_rfl
  i4 := by kernel_rfl
  i5 := by kernel_rfl
  i9 := by kernel_rfl
  i20 := by kernel_rfl
  i37 := by kernel_rfl
  i46 := by kernel_rfl
  i51 := by kernel_rfl
  i53 := by kernel_rfl
  i171 := by kernel_rfl
  i173 := by kernel_rfl
  i212 := by kernel_rfl
  i232 := by kernel_rfl
  i233 := by kernel_rfl
  m17 := by kernel_rfl
  m18 := by kernel_rfl
  m19 := by kernel_rfl }
def Tryz.lays137_ren : Go.Shelf.Ren := ⟨fun | 137 => 96 | 217 => 122 | 266 => 150 | n => n, fun | 9 => 9 | 5 => 5 | 3 => 3 | n => n, fun | n => n⟩
theorem Tryz.lays137 : Go.Proofs.Lays.n137 Tryz.prog Tryz.lays137_ren := {
  mixed := by kernel_rfl
  f137 := Tryz.func96.trans (congrArg some (by kernel_rfl))
  f217 := Tryz.func122.trans (congrArg some (by kernel_rfl))
  f266 := Tryz.func150.trans (congrArg some (by kernel_rfl))
  t3 := Tryz.underlying3
  a3 := Tryz.isAgg3
  z3 := Tryz.sizeOf3
  v3 := Tryz.zeroValue3
  t5 := Tryz.underlying5
  a5 := Tryz.isAgg5
  z5 := Tryz.sizeOf5
  v5 := Tryz.zeroValue5
  t9 := Tryz.underlying9
  a9 := Tryz.isAgg9
  z9 := Tryz.sizeOf9
  v9 := Tryz.zeroValue9 }
def Tryz.lays172_ren : Go.Shelf.Ren := ⟨fun | 172 => 125 | 244 => 151 | 245 => 152 | 247 => 162 | 279 => 163 | 280 => 164 | 281 => 165 | 282 => 166 | 287 => 173 | 316 => 174 | 171 => 102 | 205 => 175 | 321 => 180 | 322 => 181 | 243 => 137 | 246 => 156 | 283 => 168 | 284 => 169 | 285 => 170 | 286 => 171 | 129 => 114 | 317 => 176 | 318 => 177 | 319 => 178 | 320 => 179 | 337 => 182 | 338 => 183 | n => n, fun | 9 => 9 | 3 => 3 | 75 => 98 | 76 => 99 | 4 => 4 | 5 => 5 | 167 => 165 | 37 => 93 | 0 => 0 | 85 => 166 | 2 => 2 | 168 => 168 | 53 => 129 | 175 => 182 | 46 => 104 | 210 => 186 | 127 => 118 | 145 => 194 | 143 => 192 | 21 => 21 | 171 => 172 | 173 => 174 | 212 => 189 | 51 => 115 | 20 => 20 | 213 => 190 | 232 => 158 | 233 => 195 | 80 => 101 | n => n, fun | 15 => 4 | 16 => 5 | 17 => 6 | 18 => 0 | 19 => 7 | n => n⟩
theorem Tryz.lays172 : Go.Proofs.LaysC.n172 Tryz.prog Tryz.lays172_ren := {
  mixed := by kernel_rfl
  f129 := Tryz.func114.trans (congrArg some (by kernel_rfl))
  f171 := Tryz.func102.trans (congrArg some (by kernel_rfl))
  f172 := Tryz.func125.trans (congrArg some (by kernel_rfl))
  f205 := Tryz.func175.trans (congrArg some (by kernel_rfl))
  f243 := Tryz.func137.trans (congrArg some (by kernel_rfl))
  f244 := Tryz.func151.trans (congrArg some (by kernel_rfl))
  f245 := Tryz.func152.trans (congrArg some (by kernel_rfl))
  f246 := Tryz.func156.trans (congrArg some (by kernel_rfl))
  f247 := Tryz.func162.trans (congrArg some (by kernel_rfl))
  f279 := Tryz.func163.trans (congrArg some (by kernel_rfl))
  f280 := Tryz.func164.trans (congrArg some (by kernel_rfl))
  f281 := Tryz.func165.trans (congrArg some (by kernel_rfl))
  f282 := Tryz.func166.trans (congrArg some (by kernel_rfl))
  f283 := Tryz.func168.trans (congrArg some (by kernel_rfl))
  f284 := Tryz.func169.trans (congrArg some (by kernel_rfl))
  f285 := Tryz.func170.trans (congrArg some (by kernel_rfl))
  f286 := Tryz.func171.trans (congrArg some (by kernel_rfl))
  f287 := Tryz.func173.trans (congrArg some (by kernel_rfl))
  f316 := Tryz.func174.trans (congrArg some (by kernel_rfl))
  f317 := Tryz.func176.trans (congrArg some (by kernel_rfl))
  f318 := Tryz.func177.trans (congrArg some (by kernel_rfl))
  f319 := Tryz.func178.trans (congrArg some (by kernel_rfl))
  f320 := Tryz.func179.trans (congrArg some (by kernel_rfl))
  f321 := Tryz.func180.trans (congrArg some (by kernel_rfl))
  f322 := Tryz.func181.trans (congrArg some (by kernel_rfl))
  f337 := Tryz.func182.trans (congrArg some (by kernel_rfl))
  f338 := Tryz.func183.trans (congrArg some (by kernel_rfl))
  t0 := Tryz.underlying0
  a0 := Tryz.isAgg0
  z0 := Tryz.sizeOf0
  v0 := Tryz.zeroValue0
  t2 := Tryz.underlying2
  a2 := Tryz.isAgg2
  z2 := Tryz.sizeOf2
  v2 := Tryz.zeroValue2
  t3 := Tryz.underlying3
  a3 := Tryz.isAgg3
  z3 := Tryz.sizeOf3
  v3 := Tryz.zeroValue3
  t4 := Tryz.underlying4
  a4 := Tryz.isAgg4
  z4 := Tryz.sizeOf4
  v4 := Tryz.zeroValue4
  t5 := Tryz.underlying5
  a5 := Tryz.isAgg5
  z5 := Tryz.sizeOf5
  v5 := Tryz.zeroValue5
  t9 := Tryz.underlying9
  a9 := Tryz.isAgg9
  z9 := Tryz.sizeOf9
  v9 := Tryz.zeroValue9
  t20 := Tryz.underlying20
  a20 := Tryz.isAgg20
  z20 := Tryz.sizeOf20
  v20 := Tryz.zeroValue20
  t21 := Tryz.underlying21
  a21 := Tryz.isAgg21
  z21 := Tryz.sizeOf21
  v21 := Tryz.zeroValue21
  t37 := Tryz.underlying93
  a37 := Tryz.isAgg93
  z37 := Tryz.sizeOf93
  v37 := Tryz.zeroValue93
  t46 := Tryz.underlying104
  a46 := Tryz.isAgg104
  z46 := Tryz.sizeOf104
  v46 := Tryz.zeroValue104
  t51 := Tryz.underlying115
  a51 := Tryz.isAgg115
  z51 := Tryz.sizeOf115
  v51 := Tryz.zeroValue115
  t53 := Tryz.underlying129
  a53 := Tryz.isAgg129
  z53 := Tryz.sizeOf129
  v53 := Tryz.zeroValue129
  t75 := Tryz.underlying98
  a75 := Tryz.isAgg98
  z75 := Tryz.sizeOf98
  v75 := Tryz.zeroValue98
  t76 := Tryz.underlying99
  a76 := Tryz.isAgg99
  z76 := Tryz.sizeOf99
  v76 := Tryz.zeroValue99
  t85 := Tryz.underlying166
  a85 := Tryz.isAgg166
  z85 := Tryz.sizeOf166
  v85 := Tryz.zeroValue166
  t127 := Tryz.underlying118
  a127 := Tryz.isAgg118
  z127 := Tryz.sizeOf118
  v127 := Tryz.zeroValue118
  t143 := Tryz.underlying192
  a143 := Tryz.isAgg192
  z143 := Tryz.sizeOf192
  v143 := Tryz.zeroValue192
  t145 := Tryz.underlying194
  a145 := Tryz.isAgg194
  z145 := Tryz.sizeOf194
  v145 := Tryz.zeroValue194
  t167 := Tryz.underlying165
  a167 := Tryz.isAgg165
  z167 := Tryz.sizeOf165
  v167 := Tryz.zeroValue165
  t168 := Tryz.underlying168
  a168 := Tryz.isAgg168
  z168 := Tryz.sizeOf168
  v168 := Tryz.zeroValue168
  t171 := Tryz.underlying172
  a171 := Tryz.isAgg172
  z171 := Tryz.sizeOf172
  v171 := Tryz.zeroValue172
  t173 := Tryz.underlying174
  a173 := Tryz.isAgg174
  z173 := Tryz.sizeOf174
  v173 := Tryz.zeroValue174
  t175 := Tryz.underlying182
  a175 := Tryz.isAgg182
  z175 := Tryz.sizeOf182
  v175 := Tryz.zeroValue182
  t210 := Tryz.underlying186
  a210 := Tryz.isAgg186
  z210 := Tryz.sizeOf186
  v210 := Tryz.zeroValue186
  t212 := Tryz.underlying189
  a212 := Tryz.isAgg189
  z212 := Tryz.sizeOf189
  v212 := Tryz.zeroValue189
  t213 := Tryz.underlying190
  a213 := Tryz.isAgg190
  z213 := Tryz.sizeOf190
  t232 := Tryz.underlying158
  a232 := Tryz.isAgg158
  z232 := Tryz.sizeOf158
  v232 := Tryz.zeroValue158
  t233 := Tryz.underlying195
  a233 := Tryz.isAgg195
  z233 := Tryz.sizeOf195
  v233 := Tryz.zeroValue195
  g15 := by kernel_rfl
  g16 := by kernel_rfl
  g17 := by kernel_rfl
  g18 := by kernel_rfl
  g19 := by kernel_rfl
  t80 := Tryz.underlying101
  a80 := Tryz.isAgg101
  z80 := Tryz.sizeOf101
  v80 := Tryz.zeroValue101
  i0 := by kernel_rfl
  i2 := by kernel_rfl
  i3 := by kernel_rfl
  i4 := by kernel_rfl
  i5 := by kernel_rfl
  i9 := by kernel_rfl
  i20 := by kernel_rfl
  i21 := by kernel_rfl
  i37 := by kernel_rfl
  i46 := by kernel_rfl
  i51 := by kernel_rfl
  i53 := by kernel_rfl
  i75 := by kernel_rfl
  i76 := by kernel_rfl
  i80 := by kernel_rfl
  i85 := by kernel_rfl
  i127 := by kernel_rfl
  i143 := by kernel_rfl
  i145 := by kernel_rfl
  i167 := by kernel_rfl
  i168 := by kernel_rfl
  i171 := by kernel_rfl
  i173 := by kernel_rfl
  i175 := by kernel_rfl
  i210 := by kernel_rfl
  i212 := by kernel_rfl
  i232 := by kernel_rfl
  i233 := by kernel_rfl
  m15 := by kernel_rfl
  m16 := by kernel_rfl
  m17 := by kernel_rfl
  m18 := by kernel_rfl
  m19 := by kernel_rfl
  c0 := by kernel_rfl
  c2 := by kernel_rfl
  c3 := by kernel_rfl
  c4 := by kernel_rfl
  c5 := by kernel_rfl
  c9 := by kernel_rfl
  c20 := by kernel_rfl
  c21 := by kernel_rfl
  c37 := by kernel_rfl
  c46 := by kernel_rfl
  c51 := by kernel_rfl
  c53 := by kernel_rfl
  c75 := by kernel_rfl
  c76 := by kernel_rfl
  c80 := by kernel_rfl
  c85 := by kernel_rfl
  c127 := by kernel_rfl
  c143 := by kernel_rfl
  c145 := by kernel_rfl
  c167 := by kernel_rfl
  c168 := by kernel_rfl
  c171 := by kernel_rfl
  c173 := by kernel_rfl
  c175 := by kernel_rfl
  c210 := by kernel_rfl
  c212 := by kernel_rfl
  c213 := by kernel_rfl
  c232 := by kernel_rfl
  c233 := by kernel_rfl }
def Tryz.lays229_ren : Go.Shelf.Ren := ⟨fun | 229 => 123 | n => n, fun | 9 => 9 | 40 => 135 | 31 => 71 | 152 => 154 | 3 => 3 | 0 => 0 | 4 => 4 | 21 => 21 | 154 => 156 | n => n, fun | n => n⟩
theorem Tryz.lays229 : Go.Proofs.Lays.n229 Tryz.prog Tryz.lays229_ren := {
  mixed := by kernel_rfl
  f229 := Tryz.func123.trans (congrArg some (by kernel_rfl))
  t0 := Tryz.underlying0
  a0 := Tryz.isAgg0
  z0 := Tryz.sizeOf0
  v0 := Tryz.zeroValue0
  t3 := Tryz.underlying3
  a3 := Tryz.isAgg3
  z3 := Tryz.sizeOf3
  v3 := Tryz.zeroValue3
  t4 := Tryz.underlying4
  a4 := Tryz.isAgg4
  z4 := Tryz.sizeOf4
  v4 := Tryz.zeroValue4
  t9 := Tryz.underlying9
  a9 := Tryz.isAgg9
  z9 := Tryz.sizeOf9
  v9 := Tryz.zeroValue9
  t21 := Tryz.underlying21
  a21 := Tryz.isAgg21
  z21 := Tryz.sizeOf21
  v21 := Tryz.zeroValue21
  t31 := Tryz.underlying71
  a31 := Tryz.isAgg71
  z31 := Tryz.sizeOf71
  v31 := Tryz.zeroValue71
  t40 := Tryz.underlying135
  a40 := Tryz.isAgg135
  z40 := Tryz.sizeOf135
  v40 := Tryz.zeroValue135
  t152 := Tryz.underlying154
  a152 := Tryz.isAgg154
  z152 := Tryz.sizeOf154
  v152 := Tryz.zeroValue154
  t154 := Tryz.underlying156
  a154 := Tryz.isAgg156
  z154 := Tryz.sizeOf156
  v154 := Tryz.zeroValue156 }
end Go.Proofs
namespace Go.Abs
open Go Go.RowKit Go.Lib Go.Shelf Go.Proofs
theorem below_grow (w : World) (k : Nat) (os : Array Obj) : Go.RowKit.Below w.heap.size w (Go.Sort.grow (w.drewN k) os) :=
  ⟨rfl, rfl, rfl, by simp [Go.Sort.grow, World.drewN], fun i hi => by
    show (w.heap ++ os)[i]? = _
    rw [Array.getElem?_append_left hi]⟩
def itoaO (n : Int) : Option (List UInt8) := if -9223372036854775808 ≤ n ∧ n ≤ 9223372036854775807 then some (Lib.itoa n) else none
theorem itoa_spec {P : Program} {f : FuncId} {g : Nat} {name : String} {T : List Int} (hg : P.globalNamed name = some g)
    (h : ∀ (n : Int) (w : World), -9223372036854775808 ≤ n → n ≤ 9223372036854775807 → Lib.TabIs P w name .u64 T → Calls P f #[.int .i64 n] w fun e w' => e = .returned (.string ⟨(Lib.itoa n).toArray⟩) ∧ ∃ k os, w' = Go.Sort.grow (w.drewN k) os)
    (n : Int) (r : List UInt8) (hr : itoaO n = some r) : Spec1 P f [(g, .tab .u64 T)] [] [] [.int .i64 n] (.str r) [] := by
  unfold itoaO at hr
  split at hr
  case isFalse => cases hr
  rename_i hn
  cases hr
  intro z vals hW hl hv hgs
  have e0 := hv 0 (by simp)
  simp only [List.getD_cons_zero] at e0
  have hx : vals.getD 0 undef = .int .i64 n := by
    generalize vals.getD 0 undef = y at e0
    cases e0; rfl
  have hv' : vals = #[vals.getD 0 undef] := by
    apply Array.ext
    · simpa using hl
    · intro i h1 h2
      have : i = 0 := by simp at h2; omega
      subst this; simp [h1]
  rw [hv', hx]
  have ht : Lib.TabIs P z.w name .u64 T := by
    have := hgs (g, .tab .u64 T) (List.mem_singleton.2 rfl)
    simp only at this
    cases this with
    | tab _ _ _ _ t fr hs ho =>
      unfold Lib.TabIs World.var?
      rw [hg]
      simp [ho]
  refine (h n z.w hn.1 hn.2 ht).mono ?_
  rintro e w' ⟨rfl, k, os, rfl⟩
  exact ⟨_, _, _, z.St, _, rfl, ⟨rfl, rfl⟩, hW.below (below_grow _ _ _), .str _ _ _ (by simp), fun k hk => by cases hk⟩
end Go.Abs
namespace Go.Abs
open Go Go.RowKit
def ixB (l : List UInt8) (c : UInt8) : Int := match l.findIdx? (· == c) with | some i => (i : Int) | none => -1
theorem ixB_eq (l : List UInt8) (c : UInt8) : Lib.indexByte l c = ixB l c := by
  induction l with
  | nil => rfl
  | cons b l ih =>
    have e : Lib.indexByte (b :: l) c = if b == c then 0 else if Lib.indexByte l c == -1 then -1 else Lib.indexByte l c + 1 := rfl
    rw [e, ih]
    unfold ixB
    rw [List.findIdx?_cons]
    cases h : b == c
    · cases h2 : List.findIdx? (fun x => x == c) l with
      | none => simp
      | some i =>
        have h3 : ((i : Int) == -1) = false := by simp
        simp [h3]
    · simp
def ixbO (l : List UInt8) (c : Int) : Option Int := some (ixB l c.toNat.toUInt8)
theorem ixb_spec {P : Program} {f : FuncId} (h : ∀ (s : ByteArray) (c : Int) (w : World), Calls P f #[.string s, .int .u8 c] w fun e w' => e = .returned (.int .i64 (Lib.indexByte s.data.toList c.toNat.toUInt8)) ∧ w' = w)
    (a : List UInt8) (c r : Int) (hr : ixbO a c = some r) : Spec1 P f [] [] [] [.str a, .int .u8 c] (.int .i64 r) [] := by
  cases hr
  intro z vals hW hl hv _
  have e0 := hv 0 (by simp)
  have e1 := hv 1 (by simp)
  simp only [List.getD_cons_zero, List.getD_cons_succ] at e0 e1
  obtain ⟨s, hs1, hs2⟩ := e0.str_inv
  have hs1' := e1.int_inv
  have hv : vals = #[vals.getD 0 undef, vals.getD 1 undef] := by
    apply Array.ext
    · simpa using hl
    · intro i h1 h2
      have : i = 0 ∨ i = 1 := by simp at h2; omega
      rcases this with rfl | rfl <;> simp [h1]
  rw [hv, hs1, hs1']
  refine (h s c z.w).mono ?_
  rintro e w' ⟨rfl, rfl⟩
  refine ⟨_, _, _, z.St, z.g, rfl, ⟨rfl, rfl⟩, hW, ?_, by simp⟩
  rw [hs2, ixB_eq]
  exact .int _ _ _
end Go.Abs
namespace Go.Abs
open Go Go.RowKit Go.Lib Go.Shelf Go.Proofs
/-- A variable that holds an int. -/
def intG (m : Int) : V := .elem 1 1 (fun _ _ => .int .i64 m) 0 0
theorem intG_cell {St : Nat → Prop} {w : World} {g : Gh} {G : Nat} {m : Int} (h : Rel St w g (intG m) (.pointer (some ⟨G, 0, none⟩))) : w.cell? ⟨G, 0, none⟩ = some (.int .i64 m) := by
  unfold intG at h
  generalize hp : Value.pointer (some ⟨G, 0, none⟩) = p at h
  cases h with
  | elem _ _ _ _ _ _ b o x hi hs hc h1 hr =>
    have e1 := hc 0 0 (by omega) (by omega)
    have e2 := hr 0 0 (by omega) (by omega)
    simp only [Value.pointer.injEq, Option.some.injEq, Addr.mk.injEq] at hp
    obtain ⟨rfl, hp, _⟩ := hp
    have e3 : o + 0 * 1 + 0 = 0 := hp.symm
    rw [e3] at e1
    rw [e2.int_inv] at e1
    exact e1
def splitMO (x1 x2 : List UInt8) : Option (List (List UInt8)) := if x1.length < 4294967281 ∧ 1 ≤ x2.length then some (Lib.split x1 x2) else none
theorem splitM_spec {P : Program} {f : FuncId} (E : TypeId) (g : Nat) (m : Int)
    (h : ∀ (s sep : ByteArray) (w : World), s.size < 4294967281 → w.cell? ⟨g, 0, none⟩ = some (.int .i64 m) → 1 ≤ sep.size → Calls P f #[.string s, .string sep] w fun e w' =>
      e = .returned (.slice (some ⟨w.heap.size, 0, none⟩) (Lib.countB s sep + 1) (Lib.countB s sep + 1)) ∧ w' = w.alloc (.cells ((Lib.splitB sep 0 (Lib.countB s sep) s).map Value.string).toArray E))
    (x1 x2 : List UInt8) (r : List (List UInt8)) (hr : splitMO x1 x2 = some r) : Spec1 P f [(g, intG m)] [] [] [.str x1, .str x2] (.own 3000) [(3000, bL E 1 (fun x : List UInt8 => [.str x]) [] r)] := by
  unfold splitMO at hr
  split at hr
  case isFalse => cases hr
  rename_i hlt
  obtain ⟨hlt, h1'⟩ := hlt
  cases hr
  intro z vals hW hl hv hgs
  have e0 := hv 0 (by simp)
  have e1 := hv 1 (by simp)
  simp only [List.getD_cons_zero, List.getD_cons_succ] at e0 e1
  obtain ⟨s, hs1, hs2⟩ := e0.str_inv
  obtain ⟨sep, hs1', hs2'⟩ := e1.str_inv
  have hm := intG_cell (hgs (g, intG m) (by simp))
  have hv : vals = #[vals.getD 0 undef, vals.getD 1 undef] := by
    apply Array.ext
    · simpa using hl
    · intro i h1 h2
      have : i = 0 ∨ i = 1 := by simp at h2; omega
      rcases this with rfl | rfl <;> simp [h1]
  rw [hv, hs1, hs1']
  have hsz : s.size = x1.length := by rw [← hs2]; simp
  have hsz2 : sep.size = x2.length := by rw [← hs2']; simp
  have h1 : 1 ≤ sep.size := by omega
  refine (h s sep z.w (by rw [hsz]; exact hlt) hm h1).mono ?_
  rintro e w' ⟨rfl, rfl⟩
  have hle := Lib.countB_le sep h1 s.size s (Nat.le_refl _)
  have hlen := Lib.splitB_all sep h1 0 _ s rfl
  have hdata := Lib.splitB_data sep 0 (Lib.countB s sep) s
  have hcnt : Lib.countB s sep = Lib.count x1 x2 := by rw [← hs2, ← hs2']
  have hsp : (Lib.splitB sep 0 (Lib.countB s sep) s).map (·.data.toList) = Lib.split x1 x2 := by
    exact hdata.trans (by rw [hs2, hs2', hcnt]; rfl)
  generalize hps : Lib.splitB sep 0 (Lib.countB s sep) s = ps at hlen hsp ⊢
  generalize hn : Lib.countB s sep = n at hlen hle ⊢
  have hrl : (Lib.split x1 x2).length = n + 1 := by rw [← hsp, List.length_map, hlen]
  refine ⟨_, _, _, z.St, _, rfl, ⟨rfl, rfl⟩, hW.newObj (d := 3000) (v' := .slice (some ⟨z.w.heap.size, 0, none⟩) (n + 1) (n + 1)) (by rfl) rfl ?_, .own _ _ _ (by simp [Gh.set]) rfl, fun k hk => by cases hk⟩
  refine ⟨ps.map Value.string, ⟨by simp [hlen, hrl], .inr ⟨z.w.heap.size, n + 1, (ps.map Value.string).toArray, by rw [hrl], Nat.zero_le _, heap_alloc_new _ _, by rw [hrl]; exact Nat.le_refl _, by unfold maxLen; omega, by simp [hlen], by rw [hrl]; exact List.take_of_length_le (by simp [hlen])⟩⟩, fun i j hi hj => ?_, fun x hx => ?_⟩
  · obtain rfl : j = 0 := by omega
    rw [← hsp, List.length_map] at hi
    have e1 : (Lib.split x1 x2).getD i [] = ps[i].data.toList := by rw [← hsp]; simp [List.getD_eq_getElem?_getD, hi]
    have e2 : (ps.map Value.string).getD (i * 1 + 0) undef = .string ps[i] := by simp [List.getD_eq_getElem?_getD, hi]
    simp only [encF, List.getD_cons_zero]
    rw [e1, e2]
    exact .str _ _ _ rfl
  · obtain ⟨q, _, rfl⟩ := List.mem_map.1 hx
    rfl
end Go.Abs
namespace Go.Abs
open Go Go.Proofs
set_option maxHeartbeats 4000000
theorem Tryz_mixed : Tryz.prog.follows .mixedOrders = true := by kernel_rfl
def T0 : List Nat := [0, 1, 28, 2, 29, 14, 24, 3, 30, 22, 20, 15, 25, 17, 4, 8, 31, 27, 13, 23, 21, 19, 16, 7, 26, 12, 18, 6, 11, 5, 10, 9]
def T0F : Nat → Nat → V := fun _ j => .int .u8 ((T0.getD j 0 : Nat) : Int)
def T7 : List Nat := [0, 1, 56, 2, 57, 49, 28, 3, 61, 58, 42, 50, 38, 29, 17, 4, 62, 47, 59, 36, 45, 43, 51, 22, 53, 39, 33, 30, 24, 18, 12, 5, 63, 55, 48, 27, 60, 41, 37, 16, 46, 35, 44, 21, 52, 32, 23, 11, 54, 26, 40, 15, 34, 20, 31, 10, 25, 14, 19, 9, 13, 8, 7, 6]
def T6 : List Nat := [1, 10, 100, 1000, 10000, 100000, 1000000, 10000000, 100000000, 1000000000, 10000000000, 100000000000, 1000000000000, 10000000000000, 100000000000000, 1000000000000000, 10000000000000000, 100000000000000000, 1000000000000000000, 10000000000000000000]
def cs0 : List UInt8 := [0, 1, 1, 2, 1, 2, 2, 3, 1, 2, 2, 3, 2, 3, 3, 4, 1, 2, 2, 3, 2, 3, 3, 4, 2, 3, 3, 4, 3, 4, 4, 5, 1, 2, 2, 3, 2, 3, 3, 4, 2, 3, 3, 4, 3, 4, 4, 5, 2, 3, 3, 4, 3, 4, 4, 5, 3, 4, 4, 5, 4, 5, 5, 6, 1, 2, 2, 3, 2, 3, 3, 4, 2, 3, 3, 4, 3, 4, 4, 5, 2, 3, 3, 4, 3, 4, 4, 5, 3, 4, 4, 5, 4, 5, 5, 6, 2, 3, 3, 4, 3, 4, 4, 5, 3, 4, 4, 5, 4, 5, 5, 6, 3, 4, 4, 5, 4, 5, 5, 6, 4, 5, 5, 6, 5, 6, 6, 7, 1, 2, 2, 3, 2, 3, 3, 4, 2, 3, 3, 4, 3, 4, 4, 5, 2, 3, 3, 4, 3, 4, 4, 5, 3, 4, 4, 5, 4, 5, 5, 6, 2, 3, 3, 4, 3, 4, 4, 5, 3, 4, 4, 5, 4, 5, 5, 6, 3, 4, 4, 5, 4, 5, 5, 6, 4, 5, 5, 6, 5, 6, 6, 7, 2, 3, 3, 4, 3, 4, 4, 5, 3, 4, 4, 5, 4, 5, 5, 6, 3, 4, 4, 5, 4, 5, 5, 6, 4, 5, 5, 6, 5, 6, 6, 7, 3, 4, 4, 5, 4, 5, 5, 6, 4, 5, 5, 6, 5, 6, 6, 7, 4, 5, 5, 6, 5, 6, 6, 7, 5, 6, 6, 7, 6, 7, 7, 8]
def eI (x : Int) : List V := [.int .i64 x]
abbrev q1aI (l : List (Int)) : V := vL 1 eI 0 l
abbrev q1w16 (i : Int) : BitVec 16 := BitVec.ofInt 16 i
theorem q1rq {Q : Exit → S → Prop} {id : Nat} {draw : Bool} {y : Code} (W : List Nat) (calls : List (Nat × CC)) (ds rs : List Nat) {l : List Oper} {s : S} (s' : S) {φ : Prop} (hφ : φ) (hQ : AWp Tryz.prog y Q s') (h : Abs.regC Tryz.prog W draw calls ds rs l s = some (s', φ) := by kernel_rfl) : AWp Tryz.prog (.seq (.region id l.toArray draw) y) Q s := AWp.sq W calls ds rs s' φ Tryz_mixed h hφ hQ
theorem q1rr {Q : Exit → S → Prop} {id : Nat} {draw : Bool} (W : List Nat) (calls : List (Nat × CC)) (ds rs : List Nat) {l : List Oper} {s : S} (s' : S) {φ : Prop} (hφ : φ) (hQ : Q .normal s') (h : Abs.regC Tryz.prog W draw calls ds rs l s = some (s', φ) := by kernel_rfl) : AWp Tryz.prog (.region id l.toArray draw) Q s := AWp.regC W calls ds rs s' φ Tryz_mixed h hφ hQ
def f116 (x1 : BitVec 16) : Option Int :=
  chk ((((x1 >>> 8).toNat : Nat) : Int) < ((cs0.length : Nat) : Int)) <|
  chk ((((x1 &&& (BitVec.ofInt 16 255)).toNat : Nat) : Int) < ((cs0.length : Nat) : Int)) <|
  chk (((((cs0.getD ((x1 >>> 8).toNat) 0).toNat : Nat) : Int) + (((cs0.getD ((x1 &&& (BitVec.ofInt 16 255)).toNat) 0).toNat : Nat) : Int)) ≤ 255) <|
  chk (((((cs0.getD ((x1 >>> 8).toNat) 0).toNat + (cs0.getD ((x1 &&& (BitVec.ofInt 16 255)).toNat) 0).toNat) : Nat) : Int) ≤ 9223372036854775807) <|
  some ((((cs0.getD ((x1 >>> 8).toNat) 0).toNat + (cs0.getD ((x1 &&& (BitVec.ofInt 16 255)).toNat) 0).toNat) : Nat) : Int)
set_option maxRecDepth 100000 in
theorem f116_ok  (x1 : BitVec 16) (r : Int) (h : f116 x1 = some r)  : Spec1 Tryz.prog 116 [] [] [] [.b16 x1] (.int .i64 r) [] := by
  unfold f116 at h
  refine Spec1.body 0 _ _ Tryz.func116 rfl Tryz.ntmps116 rfl rfl ?_
  refine q1rq [] [] [0] [] ⟨11, [(0, .b16 x1)], [], [], 0⟩ trivial ?_
  refine AWp.seq ?_
  have ob0 : 0 ≤ (8 : Int) := by first | decide | omega | simp | (intro h; cases h)
  obtain ⟨ob1p, h⟩ := chk_some h
  have ob1 : 0 ≤ (((x1 >>> 8).toNat : Nat) : Int) ∧ (((x1 >>> 8).toNat : Nat) : Int) < ((cs0.length : Nat) : Int) := ⟨by omega, ob1p⟩
  obtain ⟨ob2p, h⟩ := chk_some h
  have ob2 : 0 ≤ (((x1 &&& (q1w16 255)).toNat : Nat) : Int) ∧ (((x1 &&& (q1w16 255)).toNat : Nat) : Int) < ((cs0.length : Nat) : Int) := ⟨by omega, ob2p⟩
  obtain ⟨ob3p, h⟩ := chk_some h
  have ob3 : 0 ≤ ((((cs0.getD ((x1 >>> 8).toNat) 0).toNat : Nat) : Int) + (((cs0.getD ((x1 &&& (q1w16 255)).toNat) 0).toNat : Nat) : Int)) ∧ ((((cs0.getD ((x1 >>> 8).toNat) 0).toNat : Nat) : Int) + (((cs0.getD ((x1 &&& (q1w16 255)).toNat) 0).toNat : Nat) : Int)) ≤ 255 := ⟨by omega, ob3p⟩
  obtain ⟨ob4p, h⟩ := chk_some h
  have ob4 : -9223372036854775808 ≤ ((((cs0.getD ((x1 >>> 8).toNat) 0).toNat + (cs0.getD ((x1 &&& (q1w16 255)).toNat) 0).toNat) : Nat) : Int) ∧ ((((cs0.getD ((x1 >>> 8).toNat) 0).toNat + (cs0.getD ((x1 &&& (q1w16 255)).toNat) 0).toNat) : Nat) : Int) ≤ 9223372036854775807 := ⟨by omega, ob4p⟩
  refine q1rr [] [] [2] [] ⟨11, [(2, .int .i64 ((((cs0.getD ((x1 >>> 8).toNat) 0).toNat + (cs0.getD ((x1 &&& (q1w16 255)).toNat) 0).toNat) : Nat) : Int))], [], [], 0⟩ (an5 ob0 ob1 ob2 ob3 ob4) ?_
  refine thenQ_normal ?_
  have hret := Option.some.inj h
  subst hret
  refine AWp.le (Le.mk (s' := ⟨11, [(2, .int .i64 ((((cs0.getD ((x1 >>> 8).toNat) 0).toNat + (cs0.getD ((x1 &&& (q1w16 255)).toNat) 0).toNat) : Nat) : Int))], [], [], 0⟩) rfl rfl ⟨.refl _, trivial⟩ trivial) ?_
  refine AWp.ret ?_
  exact bodyQ_ret _ rfl ⟨rfl, rfl⟩ rfl
def f91 (x1 : BitVec 16) : Option Int :=
  (f116 x1).bind fun (r2 : Int) =>
  some r2
set_option maxRecDepth 100000 in
theorem f91_ok  (x1 : BitVec 16) (r : Int) (h : f91 x1 = some r)  : Spec1 Tryz.prog 91 [] [] [] [.b16 x1] (.int .i64 r) [] := by
  unfold f91 at h
  refine Spec1.body 0 _ _ Tryz.func91 rfl Tryz.ntmps91 rfl rfl ?_
  refine q1rq [] [] [0] [] ⟨5, [(0, .b16 x1)], [], [], 0⟩ trivial ?_
  refine AWp.seq ?_
  obtain ⟨r2, hr2, h⟩ := bind_ok h
  refine q1rr [] [(1, ⟨[.b16 x1], [], [], [], .int .i64 r2, [], [], []⟩)] [2] [] ⟨5, [(2, .int .i64 r2)], [], [], 0⟩ (an1 (cpT (f116_ok _ _ hr2))) ?_
  refine thenQ_normal ?_
  have hret := Option.some.inj h
  subst hret
  refine AWp.le (Le.mk (s' := ⟨5, [(2, .int .i64 r2)], [], [], 0⟩) rfl rfl ⟨.refl _, trivial⟩ trivial) ?_
  refine AWp.ret ?_
  exact bodyQ_ret _ rfl ⟨rfl, rfl⟩ rfl
def f115 (x1 : Int) : Option Bool :=
  some (x1 != x1)
set_option maxRecDepth 100000 in
theorem f115_ok  (x1 : Int) (r : Bool) (h : f115 x1 = some r)  : Spec1 Tryz.prog 115 [] [] [] [.int .i64 x1] (.bool r) [] := by
  unfold f115 at h
  refine Spec1.body 0 _ _ Tryz.func115 rfl Tryz.ntmps115 rfl rfl ?_
  refine q1rq [] [] [0] [] ⟨6, [(0, .int .i64 x1)], [], [], 0⟩ trivial ?_
  refine q1rq [] [] [2] [] ⟨6, [(2, .bool (x1 != x1))], [], [], 0⟩ trivial ?_
  have hret := Option.some.inj h
  subst hret
  refine AWp.le (Le.mk (s' := ⟨6, [(2, .bool (x1 != x1))], [], [], 0⟩) rfl rfl ⟨.refl _, trivial⟩ trivial) ?_
  refine AWp.ret ?_
  exact bodyQ_ret _ rfl ⟨rfl, rfl⟩ rfl
def f90 (x1 : Int) (x2 : Int) : Option Int :=
  (f115 x1).bind fun (r3 : Bool) =>
  (f115 x2).bind fun (r4 : Bool) =>
  if r3 then (
  if r4 then (
  some (0 : Int)
  ) else (
  some (-1 : Int)
  )
  ) else (
  if r4 then (
  some (1 : Int)
  ) else (
  if (decide (x1 < x2)) then (
  some (-1 : Int)
  ) else (
  if (decide (x1 > x2)) then (
  some (1 : Int)
  ) else (
  some (0 : Int)
  )
  )
  )
  )
set_option maxRecDepth 100000 in
theorem f90_ok  (x1 : Int) (x2 : Int) (r : Int) (h : f90 x1 x2 = some r)  : Spec1 Tryz.prog 90 [] [] [] [.int .i64 x1, .int .i64 x2] (.int .i64 r) [] := by
  unfold f90 at h
  refine Spec1.body 0 _ _ Tryz.func90 rfl Tryz.ntmps90 rfl rfl ?_
  refine q1rq [] [] [0, 1] [] ⟨20, [(0, .int .i64 x1), (1, .int .i64 x2)], [], [], 0⟩ trivial ?_
  refine AWp.seq ?_
  obtain ⟨r3, hr3, h⟩ := bind_ok h
  refine q1rr [] [(1, ⟨[.int .i64 x1], [], [], [], .bool r3, [], [], []⟩)] [0, 1, 5] [] ⟨20, [(0, .int .i64 x1), (1, .int .i64 x2), (5, .bool r3)], [], [], 0⟩ (an1 (cpT (f115_ok _ _ hr3))) ?_
  refine thenQ_normal ?_
  refine AWp.seq ?_
  obtain ⟨r4, hr4, h⟩ := bind_ok h
  refine q1rr [] [(1, ⟨[.int .i64 x2], [], [], [], .bool r4, [], [], []⟩)] [0, 1, 5, 6] [] ⟨20, [(0, .int .i64 x1), (1, .int .i64 x2), (5, .bool r3), (6, .bool r4)], [], [], 0⟩ (an1 (cpT (f115_ok _ _ hr4))) ?_
  refine thenQ_normal ?_
  refine AWp.seq ?_
  refine q1rq [] [] [0, 1, 6, 11] [] ⟨20, [(0, .int .i64 x1), (1, .int .i64 x2), (6, .bool r4), (11, .bool r3)], [], [], 0⟩ trivial ?_
  refine AWp.cond (b := r3) (by kernel_rfl) (fun hc1 => ?_) (fun hc1 => ?_)
  ·
    replace h := ite_tb hc1 h
    refine AWp.seq ?_
    refine q1rq [] [] [12] [] ⟨20, [(12, .bool r4)], [], [], 0⟩ trivial ?_
    refine AWp.cond (b := r4) (by kernel_rfl) (fun hc2 => ?_) (fun hc2 => ?_)
    ·
      replace h := ite_tb hc2 h
      refine q1rq [] [] [4] [] ⟨20, [(4, .int .i64 (0 : Int))], [], [], 0⟩ trivial ?_
      have hret := Option.some.inj h
      subst hret
      refine AWp.le (Le.mk (s' := ⟨20, [(4, .int .i64 (0 : Int))], [], [], 0⟩) rfl rfl ⟨.refl _, trivial⟩ trivial) ?_
      refine AWp.ret ?_
      refine thenQ_ret ?_
      refine thenQ_ret ?_
      exact bodyQ_ret _ rfl ⟨rfl, rfl⟩ rfl
    ·
      replace h := ite_fb hc2 h
      refine AWp.skip ?_
      refine thenQ_normal ?_
      refine q1rq [] [] [4] [] ⟨20, [(4, .int .i64 (-1 : Int))], [], [], 0⟩ trivial ?_
      have hret := Option.some.inj h
      subst hret
      refine AWp.le (Le.mk (s' := ⟨20, [(4, .int .i64 (-1 : Int))], [], [], 0⟩) rfl rfl ⟨.refl _, trivial⟩ trivial) ?_
      refine AWp.ret ?_
      refine thenQ_ret ?_
      exact bodyQ_ret _ rfl ⟨rfl, rfl⟩ rfl
  ·
    replace h := ite_fb hc1 h
    refine AWp.skip ?_
    refine thenQ_normal ?_
    refine AWp.seq ?_
    refine q1rq [] [] [0, 1, 13] [] ⟨20, [(0, .int .i64 x1), (1, .int .i64 x2), (13, .bool r4)], [], [], 0⟩ trivial ?_
    refine AWp.cond (b := r4) (by kernel_rfl) (fun hc3 => ?_) (fun hc3 => ?_)
    ·
      replace h := ite_tb hc3 h
      refine q1rq [] [] [4] [] ⟨20, [(4, .int .i64 (1 : Int))], [], [], 0⟩ trivial ?_
      have hret := Option.some.inj h
      subst hret
      refine AWp.le (Le.mk (s' := ⟨20, [(4, .int .i64 (1 : Int))], [], [], 0⟩) rfl rfl ⟨.refl _, trivial⟩ trivial) ?_
      refine AWp.ret ?_
      refine thenQ_ret ?_
      exact bodyQ_ret _ rfl ⟨rfl, rfl⟩ rfl
    ·
      replace h := ite_fb hc3 h
      refine AWp.skip ?_
      refine thenQ_normal ?_
      refine AWp.seq ?_
      refine q1rq [] [] [0, 1, 16] [] ⟨20, [(0, .int .i64 x1), (1, .int .i64 x2), (16, .bool (decide (x1 < x2)))], [], [], 0⟩ trivial ?_
      refine AWp.cond (b := (decide (x1 < x2))) (by kernel_rfl) (fun hc4 => ?_) (fun hc4 => ?_)
      ·
        replace h := ite_tb hc4 h
        refine q1rq [] [] [4] [] ⟨20, [(4, .int .i64 (-1 : Int))], [], [], 0⟩ trivial ?_
        have hret := Option.some.inj h
        subst hret
        refine AWp.le (Le.mk (s' := ⟨20, [(4, .int .i64 (-1 : Int))], [], [], 0⟩) rfl rfl ⟨.refl _, trivial⟩ trivial) ?_
        refine AWp.ret ?_
        refine thenQ_ret ?_
        exact bodyQ_ret _ rfl ⟨rfl, rfl⟩ rfl
      ·
        replace h := ite_fb hc4 h
        refine AWp.skip ?_
        refine thenQ_normal ?_
        refine AWp.seq ?_
        refine q1rq [] [] [19] [] ⟨20, [(19, .bool (decide (x1 > x2)))], [], [], 0⟩ trivial ?_
        refine AWp.cond (b := (decide (x1 > x2))) (by kernel_rfl) (fun hc5 => ?_) (fun hc5 => ?_)
        ·
          replace h := ite_tb hc5 h
          refine q1rq [] [] [4] [] ⟨20, [(4, .int .i64 (1 : Int))], [], [], 0⟩ trivial ?_
          have hret := Option.some.inj h
          subst hret
          refine AWp.le (Le.mk (s' := ⟨20, [(4, .int .i64 (1 : Int))], [], [], 0⟩) rfl rfl ⟨.refl _, trivial⟩ trivial) ?_
          refine AWp.ret ?_
          refine thenQ_ret ?_
          exact bodyQ_ret _ rfl ⟨rfl, rfl⟩ rfl
        ·
          replace h := ite_fb hc5 h
          refine AWp.skip ?_
          refine thenQ_normal ?_
          refine q1rq [] [] [4] [] ⟨20, [(4, .int .i64 (0 : Int))], [], [], 0⟩ trivial ?_
          have hret := Option.some.inj h
          subst hret
          refine AWp.le (Le.mk (s' := ⟨20, [(4, .int .i64 (0 : Int))], [], [], 0⟩) rfl rfl ⟨.refl _, trivial⟩ trivial) ?_
          refine AWp.ret ?_
          exact bodyQ_ret _ rfl ⟨rfl, rfl⟩ rfl
def f117 (x1 : BitVec 16) : Option Bool :=
  some (!(x1 == x1))
set_option maxRecDepth 100000 in
theorem f117_ok  (x1 : BitVec 16) (r : Bool) (h : f117 x1 = some r)  : Spec1 Tryz.prog 117 [] [] [] [.b16 x1] (.bool r) [] := by
  unfold f117 at h
  refine Spec1.body 0 _ _ Tryz.func117 rfl Tryz.ntmps117 rfl rfl ?_
  refine q1rq [] [] [0] [] ⟨6, [(0, .b16 x1)], [], [], 0⟩ trivial ?_
  refine q1rq [] [] [2] [] ⟨6, [(2, .bool (!(x1 == x1)))], [], [], 0⟩ trivial ?_
  have hret := Option.some.inj h
  subst hret
  refine AWp.le (Le.mk (s' := ⟨6, [(2, .bool (!(x1 == x1)))], [], [], 0⟩) rfl rfl ⟨.refl _, trivial⟩ trivial) ?_
  refine AWp.ret ?_
  exact bodyQ_ret _ rfl ⟨rfl, rfl⟩ rfl
def f92 (x1 : BitVec 16) (x2 : BitVec 16) : Option Int :=
  (f117 x1).bind fun (r3 : Bool) =>
  (f117 x2).bind fun (r4 : Bool) =>
  if r3 then (
  if r4 then (
  some (0 : Int)
  ) else (
  some (-1 : Int)
  )
  ) else (
  if r4 then (
  some (1 : Int)
  ) else (
  if (decide (x1.toNat < x2.toNat)) then (
  some (-1 : Int)
  ) else (
  if (decide (x1.toNat > x2.toNat)) then (
  some (1 : Int)
  ) else (
  some (0 : Int)
  )
  )
  )
  )
set_option maxRecDepth 100000 in
theorem f92_ok  (x1 : BitVec 16) (x2 : BitVec 16) (r : Int) (h : f92 x1 x2 = some r)  : Spec1 Tryz.prog 92 [] [] [] [.b16 x1, .b16 x2] (.int .i64 r) [] := by
  unfold f92 at h
  refine Spec1.body 0 _ _ Tryz.func92 rfl Tryz.ntmps92 rfl rfl ?_
  refine q1rq [] [] [0, 1] [] ⟨20, [(0, .b16 x1), (1, .b16 x2)], [], [], 0⟩ trivial ?_
  refine AWp.seq ?_
  obtain ⟨r3, hr3, h⟩ := bind_ok h
  refine q1rr [] [(1, ⟨[.b16 x1], [], [], [], .bool r3, [], [], []⟩)] [0, 1, 5] [] ⟨20, [(0, .b16 x1), (1, .b16 x2), (5, .bool r3)], [], [], 0⟩ (an1 (cpT (f117_ok _ _ hr3))) ?_
  refine thenQ_normal ?_
  refine AWp.seq ?_
  obtain ⟨r4, hr4, h⟩ := bind_ok h
  refine q1rr [] [(1, ⟨[.b16 x2], [], [], [], .bool r4, [], [], []⟩)] [0, 1, 5, 6] [] ⟨20, [(0, .b16 x1), (1, .b16 x2), (5, .bool r3), (6, .bool r4)], [], [], 0⟩ (an1 (cpT (f117_ok _ _ hr4))) ?_
  refine thenQ_normal ?_
  refine AWp.seq ?_
  refine q1rq [] [] [0, 1, 6, 11] [] ⟨20, [(0, .b16 x1), (1, .b16 x2), (6, .bool r4), (11, .bool r3)], [], [], 0⟩ trivial ?_
  refine AWp.cond (b := r3) (by kernel_rfl) (fun hc1 => ?_) (fun hc1 => ?_)
  ·
    replace h := ite_tb hc1 h
    refine AWp.seq ?_
    refine q1rq [] [] [12] [] ⟨20, [(12, .bool r4)], [], [], 0⟩ trivial ?_
    refine AWp.cond (b := r4) (by kernel_rfl) (fun hc2 => ?_) (fun hc2 => ?_)
    ·
      replace h := ite_tb hc2 h
      refine q1rq [] [] [4] [] ⟨20, [(4, .int .i64 (0 : Int))], [], [], 0⟩ trivial ?_
      have hret := Option.some.inj h
      subst hret
      refine AWp.le (Le.mk (s' := ⟨20, [(4, .int .i64 (0 : Int))], [], [], 0⟩) rfl rfl ⟨.refl _, trivial⟩ trivial) ?_
      refine AWp.ret ?_
      refine thenQ_ret ?_
      refine thenQ_ret ?_
      exact bodyQ_ret _ rfl ⟨rfl, rfl⟩ rfl
    ·
      replace h := ite_fb hc2 h
      refine AWp.skip ?_
      refine thenQ_normal ?_
      refine q1rq [] [] [4] [] ⟨20, [(4, .int .i64 (-1 : Int))], [], [], 0⟩ trivial ?_
      have hret := Option.some.inj h
      subst hret
      refine AWp.le (Le.mk (s' := ⟨20, [(4, .int .i64 (-1 : Int))], [], [], 0⟩) rfl rfl ⟨.refl _, trivial⟩ trivial) ?_
      refine AWp.ret ?_
      refine thenQ_ret ?_
      exact bodyQ_ret _ rfl ⟨rfl, rfl⟩ rfl
  ·
    replace h := ite_fb hc1 h
    refine AWp.skip ?_
    refine thenQ_normal ?_
    refine AWp.seq ?_
    refine q1rq [] [] [0, 1, 13] [] ⟨20, [(0, .b16 x1), (1, .b16 x2), (13, .bool r4)], [], [], 0⟩ trivial ?_
    refine AWp.cond (b := r4) (by kernel_rfl) (fun hc3 => ?_) (fun hc3 => ?_)
    ·
      replace h := ite_tb hc3 h
      refine q1rq [] [] [4] [] ⟨20, [(4, .int .i64 (1 : Int))], [], [], 0⟩ trivial ?_
      have hret := Option.some.inj h
      subst hret
      refine AWp.le (Le.mk (s' := ⟨20, [(4, .int .i64 (1 : Int))], [], [], 0⟩) rfl rfl ⟨.refl _, trivial⟩ trivial) ?_
      refine AWp.ret ?_
      refine thenQ_ret ?_
      exact bodyQ_ret _ rfl ⟨rfl, rfl⟩ rfl
    ·
      replace h := ite_fb hc3 h
      refine AWp.skip ?_
      refine thenQ_normal ?_
      refine AWp.seq ?_
      refine q1rq [] [] [0, 1, 16] [] ⟨20, [(0, .b16 x1), (1, .b16 x2), (16, .bool (decide (x1.toNat < x2.toNat)))], [], [], 0⟩ trivial ?_
      refine AWp.cond (b := (decide (x1.toNat < x2.toNat))) (by kernel_rfl) (fun hc4 => ?_) (fun hc4 => ?_)
      ·
        replace h := ite_tb hc4 h
        refine q1rq [] [] [4] [] ⟨20, [(4, .int .i64 (-1 : Int))], [], [], 0⟩ trivial ?_
        have hret := Option.some.inj h
        subst hret
        refine AWp.le (Le.mk (s' := ⟨20, [(4, .int .i64 (-1 : Int))], [], [], 0⟩) rfl rfl ⟨.refl _, trivial⟩ trivial) ?_
        refine AWp.ret ?_
        refine thenQ_ret ?_
        exact bodyQ_ret _ rfl ⟨rfl, rfl⟩ rfl
      ·
        replace h := ite_fb hc4 h
        refine AWp.skip ?_
        refine thenQ_normal ?_
        refine AWp.seq ?_
        refine q1rq [] [] [19] [] ⟨20, [(19, .bool (decide (x1.toNat > x2.toNat)))], [], [], 0⟩ trivial ?_
        refine AWp.cond (b := (decide (x1.toNat > x2.toNat))) (by kernel_rfl) (fun hc5 => ?_) (fun hc5 => ?_)
        ·
          replace h := ite_tb hc5 h
          refine q1rq [] [] [4] [] ⟨20, [(4, .int .i64 (1 : Int))], [], [], 0⟩ trivial ?_
          have hret := Option.some.inj h
          subst hret
          refine AWp.le (Le.mk (s' := ⟨20, [(4, .int .i64 (1 : Int))], [], [], 0⟩) rfl rfl ⟨.refl _, trivial⟩ trivial) ?_
          refine AWp.ret ?_
          refine thenQ_ret ?_
          exact bodyQ_ret _ rfl ⟨rfl, rfl⟩ rfl
        ·
          replace h := ite_fb hc5 h
          refine AWp.skip ?_
          refine thenQ_normal ?_
          refine q1rq [] [] [4] [] ⟨20, [(4, .int .i64 (0 : Int))], [], [], 0⟩ trivial ?_
          have hret := Option.some.inj h
          subst hret
          refine AWp.le (Le.mk (s' := ⟨20, [(4, .int .i64 (0 : Int))], [], [], 0⟩) rfl rfl ⟨.refl _, trivial⟩ trivial) ?_
          refine AWp.ret ?_
          exact bodyQ_ret _ rfl ⟨rfl, rfl⟩ rfl
def f73_L0 (x1 : List Int) (K1 : Unit → Option Int) : Nat → Nat → Option Int
  | 0, _ => none
  | k + 1, n2 =>
    if (decide ((n2 : Int) < (((x1).length : Nat) : Int))) then (
    chk ((n2 : Int) < (((x1).length : Nat) : Int)) <|
    if ((x1.getD n2 0) != (0 : Int)) then (
    some (x1.getD n2 0)
    ) else (
    chk (((n2 : Int) + (1 : Int)) ≤ 9223372036854775807) <|
    (f73_L0 x1 K1 k) (n2 + 1)
    )
    ) else (
    K1 ()
    )
def f73 (x1 : List Int) : Option Int :=
  jn (fun (_ : Unit) =>
  some (0 : Int)
  ) fun (K1 : Unit → Option Int) =>
  f73_L0 x1 K1 FUEL 0
set_option maxRecDepth 100000 in
theorem f73_ok  (x1 : List Int) (r : Int) (h : f73 x1 = some r)  : Spec1 Tryz.prog 73 [] [] [] [vL 1 eI 0 x1] (.int .i64 r) [] := by
  unfold f73 at h
  refine Spec1.body 0 _ _ Tryz.func73 rfl Tryz.ntmps73 rfl rfl ?_
  refine q1rq [] [] [0] [] ⟨18, [(0, q1aI x1)], [], [], 0⟩ trivial ?_
  refine q1rq [] [] [0, 3] [] ⟨18, [(0, q1aI x1), (3, .int .i64 (0 : Int))], [], [], 0⟩ trivial ?_
  obtain ⟨K1, hK1, h⟩ := jn_some h
  refine AWp.join (α := Unit) (fun (x : Unit) => match x with | () => ⟨18, [(3, .int .i64 (0 : Int))], [], [], 0⟩) (fun x => K1 x = some r) ?_ ?_
  ·
    refine q1rq [] [] [3, 6, 7, 8] [] ⟨18, [(3, .int .i64 (0 : Int)), (6, q1aI x1), (7, .int .i64 (((x1).length : Nat) : Int)), (8, .int .i64 (0 : Int))], [], [], 0⟩ trivial ?_
    refine AWp.block ?_
    refine AWp.loopL (α := Nat × Nat) (fun x => match x with | (_, n2) => ⟨18, [(3, .int .i64 (0 : Int)), (6, q1aI x1), (7, .int .i64 (((x1).length : Nat) : Int)), (8, .int .i64 (n2 : Int))], [], [], 0⟩) (fun x => f73_L0 x1 K1 x.1 x.2 = some r) (fun x => x.1) (FUEL, 0) (Le.mk (s' := ⟨18, [(3, .int .i64 (0 : Int)), (6, q1aI x1), (7, .int .i64 (((x1).length : Nat) : Int)), (8, .int .i64 (0 : Int))], [], [], 0⟩) rfl rfl ⟨.refl _, .refl _, .refl _, .refl _, trivial⟩ trivial) h ?_
    rintro ⟨k0, n2⟩ h
    cases k0 with
    | zero => exact nomatch (show (none : Option Int) = some r from h)
    | succ k0 =>
    obtain ⟨C0, hC0⟩ : ∃ C, C = f73_L0 x1 K1 k0 := ⟨_, rfl⟩
    replace h := (f73_L0.eq_2 ..).symm.trans h
    try rw [← hC0] at h
    refine q1rq [] [] [3, 6, 7, 8, 9] [] ⟨18, [(3, .int .i64 (0 : Int)), (6, q1aI x1), (7, .int .i64 (((x1).length : Nat) : Int)), (8, .int .i64 (n2 : Int)), (9, .bool (decide ((n2 : Int) < (((x1).length : Nat) : Int))))], [], [], 0⟩ trivial ?_
    refine AWp.seq ?_
    refine AWp.cond (b := (decide ((n2 : Int) < (((x1).length : Nat) : Int)))) (by kernel_rfl) (fun hc1 => ?_) (fun hc1 => ?_)
    ·
      replace h := ite_tb hc1 h
      refine AWp.skip ?_
      refine thenQ_normal ?_
      refine AWp.seq ?_
      refine AWp.block ?_
      refine AWp.seq ?_
      obtain ⟨ob0p, h⟩ := chk_some h
      have ob0 : 0 ≤ (n2 : Int) ∧ (n2 : Int) < (((x1).length : Nat) : Int) := ⟨by omega, ob0p⟩
      refine q1rr [] [] [3, 5, 6, 7, 8] [] ⟨18, [(3, .int .i64 (0 : Int)), (5, .int .i64 (x1.getD n2 0)), (6, q1aI x1), (7, .int .i64 (((x1).length : Nat) : Int)), (8, .int .i64 (n2 : Int))], [], [], 0⟩ (an1 ob0) ?_
      refine thenQ_normal ?_
      refine q1rq [] [] [3, 5, 6, 7, 8, 14] [] ⟨18, [(3, .int .i64 (0 : Int)), (5, .int .i64 (x1.getD n2 0)), (6, q1aI x1), (7, .int .i64 (((x1).length : Nat) : Int)), (8, .int .i64 (n2 : Int)), (14, .bool ((x1.getD n2 0) != (0 : Int)))], [], [], 0⟩ trivial ?_
      refine AWp.cond (b := ((x1.getD n2 0) != (0 : Int))) (by kernel_rfl) (fun hc2 => ?_) (fun hc2 => ?_)
      ·
        replace h := ite_tb hc2 h
        refine q1rq [] [] [2] [] ⟨18, [(2, .int .i64 (x1.getD n2 0))], [], [], 0⟩ trivial ?_
        have hret := Option.some.inj h
        subst hret
        refine AWp.le (Le.mk (s' := ⟨18, [(2, .int .i64 (x1.getD n2 0))], [], [], 0⟩) rfl rfl ⟨.refl _, trivial⟩ trivial) ?_
        refine AWp.ret ?_
        refine blockQ_ret ?_
        refine thenQ_ret ?_
        refine thenQ_ret ?_
        refine blockQ_ret ?_
        refine joinQ_ret ?_
        exact bodyQ_ret _ rfl ⟨rfl, rfl⟩ rfl
      ·
        replace h := ite_fb hc2 h
        refine AWp.skip ?_
        refine blockQ_normal ?_
        refine thenQ_normal ?_
        obtain ⟨ob1p, h⟩ := chk_some h
        have ob1 : -9223372036854775808 ≤ ((n2 : Int) + (1 : Int)) ∧ ((n2 : Int) + (1 : Int)) ≤ 9223372036854775807 := ⟨by omega, ob1p⟩
        refine q1rr [] [] [3, 6, 7, 8] [] ⟨18, [(3, .int .i64 (0 : Int)), (6, q1aI x1), (7, .int .i64 (((x1).length : Nat) : Int)), (8, .int .i64 (((n2 + 1) : Nat) : Int))], [], [], 0⟩ (an1 ob1) ?_
        rw [hC0] at h
        exact loopQ_normal (_, (n2 + 1)) (Le.mk rfl rfl ⟨.refl _, .refl _, .refl _, .refl _, trivial⟩ trivial) h (Nat.lt_succ_self _)
    ·
      replace h := ite_fb hc1 h
      refine AWp.exit ?_
      refine thenQ_exit ?_
      refine thenQ_exit ?_
      refine blockQ_same ?_
      exact joinQ_normal () (Le.mk rfl rfl ⟨.refl _, trivial⟩ trivial) h
  ·
    rintro ⟨⟩ h
    replace h := (congrFun hK1 _).symm.trans h
    refine q1rq [] [] [2] [] ⟨18, [(2, .int .i64 (0 : Int))], [], [], 0⟩ trivial ?_
    have hret := Option.some.inj h
    subst hret
    refine AWp.le (Le.mk (s' := ⟨18, [(2, .int .i64 (0 : Int))], [], [], 0⟩) rfl rfl ⟨.refl _, trivial⟩ trivial) ?_
    refine AWp.ret ?_
    exact bodyQ_ret _ rfl ⟨rfl, rfl⟩ rfl
def f65 (x1 : BitVec 16) (x2 : BitVec 16) : Option Int :=
  (f91 x1).bind fun (r3 : Int) =>
  (f91 x2).bind fun (r4 : Int) =>
  (f90 r3 r4).bind fun (r5 : Int) =>
  (f92 x1 x2).bind fun (r6 : Int) =>
  (f73 [r5, r6]).bind fun (r7 : Int) =>
  some r7
set_option maxRecDepth 100000 in
theorem f65_ok  (x1 : BitVec 16) (x2 : BitVec 16) (r : Int) (h : f65 x1 x2 = some r)  : Spec1 Tryz.prog 65 [] [] [] [.b16 x1, .b16 x2] (.int .i64 r) [] := by
  unfold f65 at h
  refine Spec1.body 0 _ _ Tryz.func65 rfl Tryz.ntmps65 rfl rfl ?_
  refine q1rq [] [] [0, 1] [] ⟨15, [(0, .b16 x1), (1, .b16 x2)], [], [], 0⟩ trivial ?_
  refine AWp.seq ?_
  obtain ⟨r3, hr3, h⟩ := bind_ok h
  obtain ⟨r4, hr4, h⟩ := bind_ok h
  obtain ⟨r5, hr5, h⟩ := bind_ok h
  obtain ⟨r6, hr6, h⟩ := bind_ok h
  obtain ⟨r7, hr7, h⟩ := bind_ok h
  refine q1rr [] [(1, ⟨[.b16 x1], [], [], [], .int .i64 r3, [], [], []⟩), (3, ⟨[.b16 x2], [], [], [], .int .i64 r4, [], [], []⟩), (4, ⟨[.int .i64 r3, .int .i64 r4], [], [], [], .int .i64 r5, [], [], []⟩), (7, ⟨[.b16 x1, .b16 x2], [], [], [], .int .i64 r6, [], [], []⟩), (9, ⟨[q1aI [r5, r6]], [], [], [], .int .i64 r7, [], [13], []⟩)] [4] [] ⟨15, [(4, .int .i64 r7)], [], [], 0⟩ (an5 (cpT (f91_ok _ _ hr3)) (cpT (f91_ok _ _ hr4)) (cpT (f90_ok _ _ _ hr5)) (cpT (f92_ok _ _ _ hr6)) (cpL (c := true) [(13, .rows 3 1 2 (lstF 1 [.int .i64 r5, .int .i64 r6]))] [13] [.own 13] (fun _ => (f73_ok _ _ hr7)) (fun _ => ⟨(VLe.of (RL.lst (enc := eI) [r5, r6] rfl rfl (fun _ => rfl))), trivial⟩) (.inr ⟨rfl, trivial⟩))) ?_
  refine thenQ_normal ?_
  have hret := Option.some.inj h
  subst hret
  refine AWp.le (Le.mk (s' := ⟨15, [(4, .int .i64 r7)], [], [], 0⟩) rfl rfl ⟨.refl _, trivial⟩ trivial) ?_
  refine AWp.ret ?_
  exact bodyQ_ret _ rfl ⟨rfl, rfl⟩ rfl
def f43 (x1 : BitVec 16) (x2 : BitVec 16) (x3 : BitVec 16) (x4 : BitVec 16) : Option Int :=
  (f65 x1 x3).bind fun (r5 : Int) =>
  (f65 x2 x4).bind fun (r6 : Int) =>
  (f73 [r5, r6]).bind fun (r7 : Int) =>
  some r7
set_option maxRecDepth 100000 in
theorem f43_ok  (x1 : BitVec 16) (x2 : BitVec 16) (x3 : BitVec 16) (x4 : BitVec 16) (r : Int) (h : f43 x1 x2 x3 x4 = some r)  : Spec1 Tryz.prog 43 [] [] [] [.agg [.b16 x1, .b16 x2], .agg [.b16 x3, .b16 x4]] (.int .i64 r) [] := by
  unfold f43 at h
  refine Spec1.body 0 _ _ Tryz.func43 rfl Tryz.ntmps43 rfl rfl ?_
  refine q1rq [] [] [2, 3] [2, 3] ⟨17, [(2, .ptr 2 0), (3, .ptr 3 0)], [(2, .cells 30 [.b16 x1, .b16 x2]), (3, .cells 30 [.b16 x3, .b16 x4])], [], 0⟩ trivial ?_
  refine AWp.seq ?_
  obtain ⟨r5, hr5, h⟩ := bind_ok h
  obtain ⟨r6, hr6, h⟩ := bind_ok h
  obtain ⟨r7, hr7, h⟩ := bind_ok h
  refine q1rr [] [(4, ⟨[.b16 x1, .b16 x3], [], [], [], .int .i64 r5, [], [], []⟩), (9, ⟨[.b16 x2, .b16 x4], [], [], [], .int .i64 r6, [], [], []⟩), (11, ⟨[q1aI [r5, r6]], [], [], [], .int .i64 r7, [], [15], []⟩)] [4] [] ⟨17, [(4, .int .i64 r7)], [], [], 0⟩ (an3 (cpT (f65_ok _ _ _ hr5)) (cpT (f65_ok _ _ _ hr6)) (cpL (c := true) [(15, .rows 3 1 2 (lstF 1 [.int .i64 r5, .int .i64 r6]))] [15] [.own 15] (fun _ => (f73_ok _ _ hr7)) (fun _ => ⟨(VLe.of (RL.lst (enc := eI) [r5, r6] rfl rfl (fun _ => rfl))), trivial⟩) (.inr ⟨rfl, trivial⟩))) ?_
  refine thenQ_normal ?_
  have hret := Option.some.inj h
  subst hret
  refine AWp.le (Le.mk (s' := ⟨17, [(4, .int .i64 r7)], [], [], 0⟩) rfl rfl ⟨.refl _, trivial⟩ trivial) ?_
  refine AWp.ret ?_
  exact bodyQ_ret _ rfl ⟨rfl, rfl⟩ rfl
end Go.Abs
namespace Go.Abs
theorem bit_toNat (x : BitVec 16) (i : Nat) : ((x >>> i) &&& (BitVec.ofInt 16 1)).toNat = x.toNat / 2 ^ i % 2 := by
  rw [BitVec.toNat_and, BitVec.toNat_ushiftRight, Nat.shiftRight_eq_div_pow]
  exact Nat.and_one_is_mod _
theorem cs0_at (b : Nat) (h : b < 256) : (cs0.getD b 0).toNat = bsum b 0 8 := pop8_at b h
theorem f116_eq (x : BitVec 16) : f116 x = some (sz x : Int) := by
  have h1 : (x >>> 8).toNat = x.toNat / 256 := by rw [BitVec.toNat_ushiftRight, Nat.shiftRight_eq_div_pow]
  have h2 : (x &&& (BitVec.ofInt 16 255)).toNat = x.toNat % 256 := by
    rw [BitVec.toNat_and]
    exact Nat.and_two_pow_sub_one_eq_mod x.toNat 8
  have hx := x.isLt
  have hl : cs0.length = 256 := by kernel_rfl
  have e1 := cs0_at (x.toNat / 256) (by omega)
  have e2 := cs0_at (x.toNat % 256) (by omega)
  have l1 := bsum_le (x.toNat / 256) 8 0
  have l2 := bsum_le (x.toNat % 256) 8 0
  unfold f116 chk
  rw [h1, h2, e1, e2, hl, if_pos (by omega), if_pos (by omega), if_pos (by omega), if_pos (by omega), bsum_split]
  rfl
theorem f91_eq (x : BitVec 16) : f91 x = some (sz x : Int) := by
  unfold f91; rw [f116_eq]; rfl
theorem f90_eq (a b : Int) : f90 a b = some (cmpI a b) := by
  unfold f90 f115 cmpI
  simp
  split
  · rfl
  · split <;> rfl
theorem f92_eq (a b : BitVec 16) : f92 a b = some (cmpI a.toNat b.toNat) := by
  unfold f92 f117 cmpI
  simp
  split
  · rfl
  · split <;> rfl
theorem f73_eq (a b : Int) : f73 [a, b] = some (if a ≠ 0 then a else b) := by
  unfold f73 jn
  dsimp only
  obtain ⟨k, hk⟩ : ∃ k, FUEL = k + 1 + 1 + 1 := ⟨FUEL - 3, by unfold FUEL; rfl⟩
  rw [hk, f73_L0.eq_2, if_pos (by simp)]
  unfold chk
  rw [if_pos (by simp)]
  by_cases ha : a = 0
  · subst ha
    simp only [List.getD_cons_zero, bne_self_eq_false, Bool.false_eq_true, if_false]
    rw [if_pos (by omega), f73_L0.eq_2, if_pos (by simp)]
    unfold chk
    rw [if_pos (by simp)]
    by_cases hb : b = 0
    · subst hb
      simp only [Nat.zero_add, List.getD_cons_succ, List.getD_cons_zero, bne_self_eq_false, Bool.false_eq_true, if_false]
      rw [if_pos (by omega), f73_L0.eq_2, if_neg (by simp)]
      simp
    · simp [hb]
  · simp [ha]
theorem f65_eq' (a b : BitVec 16) : f65 a b = some (cmpS a b) := by
  unfold f65
  rw [f91_eq, f91_eq]
  simp only [Option.bind_some, f90_eq, f92_eq, f73_eq]
  rfl
theorem cmpS_zero {a b : BitVec 16} (h : cmpS a b = 0) : key a = key b := by
  unfold cmpS cmpI at h
  unfold key
  have ha := a.isLt
  have hb := b.isLt
  by_cases h1 : sz a = sz b
  · rw [h1] at h ⊢
    simp at h
    split at h
    · cases h
    · split at h
      · cases h
      · omega
  · by_cases h2 : sz a < sz b
    · simp [h2] at h
    · have : sz b < sz a := by omega
      simp [h2, this] at h
theorem cmpS_neg (a b : BitVec 16) : cmpS a b < 0 ↔ key a < key b := by
  have h := cmpS_lt a b
  rw [← ltS_key, ← h]; simp
/-- fault.compare -/
def cmpF (a b : Flt) : Int := if cmpS a.1 b.1 ≠ 0 then cmpS a.1 b.1 else cmpS a.2 b.2
theorem cmpF_lt (a b : Flt) : decide (cmpF a b < 0) = decide (keyF a < keyF b) := by
  unfold cmpF keyF
  have h1 := key_lt a.1
  have h2 := key_lt a.2
  have h3 := key_lt b.1
  have h4 := key_lt b.2
  have n1 := cmpS_neg a.1 b.1
  have n2 := cmpS_neg a.2 b.2
  by_cases h : cmpS a.1 b.1 = 0
  · have := cmpS_zero h
    rw [if_neg (by simpa using h)]
    rw [decide_eq_decide, n2]; omega
  · rw [if_pos h, decide_eq_decide, n1]
    have h5 : key a.1 ≠ key b.1 := by
      intro e
      have e' := key_inj' e
      rw [e'] at h
      apply h
      unfold cmpS cmpI; simp
    omega
theorem f43_eq' (a b : Flt) : f43 a.1 a.2 b.1 b.2 = some (cmpF a b) := by
  unfold f43
  simp only [f65_eq', Option.bind_some, f73_eq]
  rfl
end Go.Abs
