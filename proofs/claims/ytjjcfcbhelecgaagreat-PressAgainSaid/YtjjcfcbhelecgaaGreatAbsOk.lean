/- The codes are the given program's (written by program: mkq.py). Conditions: none. -/
import Derived.Test.YtjjcfcbhelecgaaGreatAbsQ
import Derived.Test.YtjjcfcbhelecgaaGreatAbsPrim
import Derived.Test.YtjjcfcbhelecgaaGreatProg
set_option maxRecDepth 100000
namespace Go.Proofs
open Go.Shelf
def Tryz.laysSort_ren : Go.Shelf.Ren := ⟨fun | 189 => 126 | 125 => 196 | 257 => 195 | 128 => 245 | 129 => 210 | 294 => 236 | 295 => 237 | 296 => 238 | 297 => 239 | 298 => 240 | 299 => 241 | 216 => 242 | 300 => 243 | 301 => 244 | 328 => 270 | 329 => 271 | 330 => 272 | 331 => 273 | 332 => 274 | 215 => 275 | 343 => 291 | n => n, fun | 28 => 28 | 3 => 3 | 46 => 157 | 0 => 0 | 51 => 155 | 53 => 25 | 4 => 4 | 183 => 246 | 182 => 245 | 131 => 250 | 5 => 5 | 9 => 9 | 218 => 284 | 222 => 287 | 228 => 300 | 229 => 301 | n => n, fun | n => n⟩
theorem Tryz.laysSort : Go.Proofs.Lays.n189 Tryz.prog Tryz.laysSort_ren where
  mixed := by kernel_rfl
  f125 := Tryz.func196.trans (congrArg some (by kernel_rfl))
  f128 := Tryz.func245.trans (congrArg some (by kernel_rfl))
  f129 := Tryz.func210.trans (congrArg some (by kernel_rfl))
  f189 := Tryz.func126.trans (congrArg some (by kernel_rfl))
  f215 := Tryz.func275.trans (congrArg some (by kernel_rfl))
  f216 := Tryz.func242.trans (congrArg some (by kernel_rfl))
  f257 := Tryz.func195.trans (congrArg some (by kernel_rfl))
  f294 := Tryz.func236.trans (congrArg some (by kernel_rfl))
  f295 := Tryz.func237.trans (congrArg some (by kernel_rfl))
  f296 := Tryz.func238.trans (congrArg some (by kernel_rfl))
  f297 := Tryz.func239.trans (congrArg some (by kernel_rfl))
  f298 := Tryz.func240.trans (congrArg some (by kernel_rfl))
  f299 := Tryz.func241.trans (congrArg some (by kernel_rfl))
  f300 := Tryz.func243.trans (congrArg some (by kernel_rfl))
  f301 := Tryz.func244.trans (congrArg some (by kernel_rfl))
  f328 := Tryz.func270.trans (congrArg some (by kernel_rfl))
  f329 := Tryz.func271.trans (congrArg some (by kernel_rfl))
  f330 := Tryz.func272.trans (congrArg some (by kernel_rfl))
  f331 := Tryz.func273.trans (congrArg some (by kernel_rfl))
  f332 := Tryz.func274.trans (congrArg some (by kernel_rfl))
  f343 := Tryz.func291.trans (congrArg some (by kernel_rfl))
  t0 := Tryz.underlying0
  a0 := Tryz.isAgg0
  z0 := Tryz.sizeOf0
  v0 := Tryz.zeroValue0
  t3 := Tryz.underlying3
  a3 := Tryz.isAgg3
  z3 := Tryz.sizeOf3
  v3 := Tryz.zeroValue3
  t4 := Tryz.underlying4
  a4 := Tryz.isAgg4
  z4 := Tryz.sizeOf4
  v4 := Tryz.zeroValue4
  t5 := Tryz.underlying5
  a5 := Tryz.isAgg5
  z5 := Tryz.sizeOf5
  v5 := Tryz.zeroValue5
  t9 := Tryz.underlying9
  a9 := Tryz.isAgg9
  z9 := Tryz.sizeOf9
  v9 := Tryz.zeroValue9
  t28 := Tryz.underlying28
  a28 := Tryz.isAgg28
  z28 := Tryz.sizeOf28
  v28 := Tryz.zeroValue28
  t46 := Tryz.underlying157
  a46 := Tryz.isAgg157
  z46 := Tryz.sizeOf157
  v46 := Tryz.zeroValue157
  t51 := Tryz.underlying155
  a51 := Tryz.isAgg155
  z51 := Tryz.sizeOf155
  v51 := Tryz.zeroValue155
  t53 := Tryz.underlying25
  a53 := Tryz.isAgg25
  z53 := Tryz.sizeOf25
  v53 := Tryz.zeroValue25
  t131 := Tryz.underlying250
  a131 := Tryz.isAgg250
  z131 := Tryz.sizeOf250
  v131 := Tryz.zeroValue250
  t182 := Tryz.underlying245
  a182 := Tryz.isAgg245
  z182 := Tryz.sizeOf245
  v182 := Tryz.zeroValue245
  t183 := Tryz.underlying246
  a183 := Tryz.isAgg246
  z183 := Tryz.sizeOf246
  v183 := Tryz.zeroValue246
  t218 := Tryz.underlying284
  a218 := Tryz.isAgg284
  z218 := Tryz.sizeOf284
  v218 := Tryz.zeroValue284
  t222 := Tryz.underlying287
  a222 := Tryz.isAgg287
  z222 := Tryz.sizeOf287
  v222 := Tryz.zeroValue287
  t228 := Tryz.underlying300
  a228 := Tryz.isAgg300
  z228 := Tryz.sizeOf300
  v228 := Tryz.zeroValue300
  t229 := Tryz.underlying301
  a229 := Tryz.isAgg301
  z229 := Tryz.sizeOf301
  v229 := Tryz.zeroValue301
end Go.Proofs
namespace Go.Abs
open Go.Proofs
theorem k3 : compFunc Tryz.prog (modesOf []) (fun _ => []) 3 = some c3 := by kernel_rfl
theorem k5 : compFunc Tryz.prog (modesOf []) (fun _ => []) 5 = some c5 := by kernel_rfl
theorem k6 : compFunc Tryz.prog (modesOf []) (fun _ => []) 6 = some c6 := by kernel_rfl
theorem k7 : compFunc Tryz.prog (modesOf []) (fun _ => []) 7 = some c7 := by kernel_rfl
theorem k12 : compFunc Tryz.prog (modesOf []) (fun _ => []) 12 = some c12 := by kernel_rfl
theorem k13 : compFunc Tryz.prog (modesOf []) (fun _ => [[0, 1, 7, 8, 9]]) 13 = some c13 := by kernel_rfl
theorem k14 : compFunc Tryz.prog (modesOf []) (fun _ => []) 14 = some c14 := by kernel_rfl
theorem k15 : compFunc Tryz.prog (modesOf [(3, 6, .thaw)]) (fun _ => []) 15 = some c15 := by kernel_rfl
theorem k16 : compFunc Tryz.prog (modesOf []) (fun _ => []) 16 = some c16 := by kernel_rfl
theorem k19 : compFunc Tryz.prog (modesOf [(3, 2, .thaw), (6, 2, .thaw)]) (fun _ => []) 19 = some c19 := by kernel_rfl
theorem k22 : compFunc Tryz.prog (modesOf []) (fun _ => [[3, 6, 20, 21, 22]]) 22 = some c22 := by kernel_rfl
theorem k23 : compFunc Tryz.prog (modesOf []) (fun _ => []) 23 = some c23 := by kernel_rfl
theorem k25 : compFunc Tryz.prog (modesOf []) (fun _ => [[1, 11, 12, 13]]) 25 = some c25 := by kernel_rfl
theorem k26 : compFunc Tryz.prog (modesOf []) (fun _ => [[1, 6, 7, 8]]) 26 = some c26 := by kernel_rfl
theorem k27 : compFunc Tryz.prog (modesOf []) (fun _ => []) 27 = some c27 := by kernel_rfl
theorem k28 : compFunc Tryz.prog (modesOf []) (fun _ => []) 28 = some c28 := by kernel_rfl
theorem k29 : compFunc Tryz.prog (modesOf []) (fun _ => []) 29 = some c29 := by kernel_rfl
theorem k30 : compFunc Tryz.prog (modesOf []) (fun _ => []) 30 = some c30 := by kernel_rfl
theorem k31 : compFunc Tryz.prog (modesOf []) (fun _ => []) 31 = some c31 := by kernel_rfl
theorem k32 : compFunc Tryz.prog (modesOf []) (fun _ => []) 32 = some c32 := by kernel_rfl
theorem k33 : compFunc Tryz.prog (modesOf []) (fun _ => []) 33 = some c33 := by kernel_rfl
theorem k34 : compFunc Tryz.prog (modesOf []) (fun _ => []) 34 = some c34 := by kernel_rfl
theorem k35 : compFunc Tryz.prog (modesOf []) (fun _ => []) 35 = some c35 := by kernel_rfl
theorem k36 : compFunc Tryz.prog (modesOf []) (fun _ => [[1, 3, 95, 96, 97]]) 36 = some c36 := by kernel_rfl
theorem k37 : compFunc Tryz.prog (modesOf []) (fun _ => [[0, 1, 12, 13]]) 37 = some c37 := by kernel_rfl
theorem k40 : compFunc Tryz.prog (modesOf []) (fun _ => []) 40 = some c40 := by kernel_rfl
theorem k44 : compFunc Tryz.prog (modesOf []) (fun _ => [[0, 1, 12, 13]]) 44 = some c44 := by kernel_rfl
theorem k47 : compFunc Tryz.prog (modesOf [(1, 2, .thaw), (4, 3, .thaw)]) (fun _ => []) 47 = some c47 := by kernel_rfl
theorem k50 : compFunc Tryz.prog (modesOf []) (fun _ => []) 50 = some c50 := by kernel_rfl
theorem k51 : compFunc Tryz.prog (modesOf []) (fun _ => []) 51 = some c51 := by kernel_rfl
theorem k52 : compFunc Tryz.prog (modesOf []) (fun _ => []) 52 = some c52 := by kernel_rfl
theorem k53 : compFunc Tryz.prog (modesOf []) (fun _ => [[0, 1, 12, 13]]) 53 = some c53 := by kernel_rfl
theorem k54 : compFunc Tryz.prog (modesOf [(13, 3, .thaw), (14, 1, .shared)]) (fun _ => [[0, 6, 26, 27, 28]]) 54 = some c54 := by kernel_rfl
theorem k65 : compFunc Tryz.prog (modesOf []) (fun _ => [[0, 3]]) 65 = some c65 := by kernel_rfl
theorem k66 : compFunc Tryz.prog (modesOf []) (fun _ => []) 66 = some c66 := by kernel_rfl
theorem k67 : compFunc Tryz.prog (modesOf []) (fun _ => []) 67 = some c67 := by kernel_rfl
theorem k68 : compFunc Tryz.prog (modesOf []) (fun _ => []) 68 = some c68 := by kernel_rfl
theorem k69 : compFunc Tryz.prog (modesOf []) (fun _ => []) 69 = some c69 := by kernel_rfl
theorem k72 : compFunc Tryz.prog (modesOf []) (fun _ => []) 72 = some c72 := by kernel_rfl
theorem k73 : compFunc Tryz.prog (modesOf []) (fun _ => []) 73 = some c73 := by kernel_rfl
theorem k74 : compFunc Tryz.prog (modesOf []) (fun _ => []) 74 = some c74 := by kernel_rfl
theorem k75 : compFunc Tryz.prog (modesOf []) (fun _ => []) 75 = some c75 := by kernel_rfl
theorem k76 : compFunc Tryz.prog (modesOf []) (fun _ => []) 76 = some c76 := by kernel_rfl
theorem k77 : compFunc Tryz.prog (modesOf []) (fun _ => []) 77 = some c77 := by kernel_rfl
theorem k78 : compFunc Tryz.prog (modesOf []) (fun _ => []) 78 = some c78 := by kernel_rfl
theorem k79 : compFunc Tryz.prog (modesOf []) (fun _ => []) 79 = some c79 := by kernel_rfl
theorem k80 : compFunc Tryz.prog (modesOf []) (fun _ => []) 80 = some c80 := by kernel_rfl
theorem k81 : compFunc Tryz.prog (modesOf []) (fun _ => []) 81 = some c81 := by kernel_rfl
theorem k82 : compFunc Tryz.prog (modesOf []) (fun _ => []) 82 = some c82 := by kernel_rfl
theorem k83 : compFunc Tryz.prog (modesOf []) (fun _ => []) 83 = some c83 := by kernel_rfl
theorem k87 : compFunc Tryz.prog (modesOf []) (fun _ => []) 87 = some c87 := by kernel_rfl
theorem k93 : compFunc Tryz.prog (modesOf []) (fun _ => []) 93 = some c93 := by kernel_rfl
theorem k94 : compFunc Tryz.prog (modesOf [(6, 4, .thaw)]) (fun _ => [[1, 6, 12, 13]]) 94 = some c94 := by kernel_rfl
theorem k95 : compFunc Tryz.prog (modesOf [(1, 8, .thaw)]) (fun _ => []) 95 = some c95 := by kernel_rfl
theorem k96 : compFunc Tryz.prog (modesOf []) (fun _ => []) 96 = some c96 := by kernel_rfl
theorem k99 : compFunc Tryz.prog (modesOf []) (fun _ => []) 99 = some c99 := by kernel_rfl
theorem k100 : compFunc Tryz.prog (modesOf []) (fun _ => []) 100 = some c100 := by kernel_rfl
theorem k101 : compFunc Tryz.prog (modesOf [(1, 2, .thaw)]) (fun _ => []) 101 = some c101 := by kernel_rfl
theorem k102 : compFunc Tryz.prog (modesOf []) (fun _ => []) 102 = some c102 := by kernel_rfl
theorem k104 : compFunc Tryz.prog (modesOf []) (fun _ => []) 104 = some c104 := by kernel_rfl
theorem k105 : compFunc Tryz.prog (modesOf [(1, 3, .thaw)]) (fun _ => []) 105 = some c105 := by kernel_rfl
theorem k106 : compFunc Tryz.prog (modesOf [(1, 6, .thaw)]) (fun _ => []) 106 = some c106 := by kernel_rfl
theorem k107 : compFunc Tryz.prog (modesOf [(1, 2, .thaw)]) (fun _ => [[2, 9, 27, 28, 29]]) 107 = some c107 := by kernel_rfl
theorem k110 : compFunc Tryz.prog (modesOf []) (fun _ => []) 110 = some c110 := by kernel_rfl
theorem k116 : compFunc Tryz.prog (modesOf [(1, 1, .thaw)]) (fun _ => []) 116 = some c116 := by kernel_rfl
theorem k117 : compFunc Tryz.prog (modesOf [(1, 1, .thaw)]) (fun _ => []) 117 = some c117 := by kernel_rfl
theorem k118 : compFunc Tryz.prog (modesOf [(3, 3, .thaw)]) (fun _ => []) 118 = some c118 := by kernel_rfl
theorem k121 : compFunc Tryz.prog (modesOf []) (fun _ => [[3, 9, 10, 11]]) 121 = some c121 := by kernel_rfl
theorem k122 : compFunc Tryz.prog (modesOf []) (fun _ => []) 122 = some c122 := by kernel_rfl
theorem k123 : compFunc Tryz.prog (modesOf []) (fun _ => []) 123 = some c123 := by kernel_rfl
theorem k124 : compFunc Tryz.prog (modesOf [(2, 2, .shared)]) (fun _ => []) 124 = some c124 := by kernel_rfl
theorem k125 : compFunc Tryz.prog (modesOf []) (fun _ => [[3, 9, 10, 11]]) 125 = some c125 := by kernel_rfl
theorem k127 : compFunc Tryz.prog (modesOf []) (fun _ => []) 127 = some c127 := by kernel_rfl
theorem k143 : compFunc Tryz.prog (modesOf []) (fun _ => [[0, 1, 7, 8]]) 143 = some c143 := by kernel_rfl
theorem k144 : compFunc Tryz.prog (modesOf []) (fun _ => []) 144 = some c144 := by kernel_rfl
theorem k145 : compFunc Tryz.prog (modesOf []) (fun _ => []) 145 = some c145 := by kernel_rfl
theorem k148 : compFunc Tryz.prog (modesOf []) (fun _ => [[0, 1, 12, 13]]) 148 = some c148 := by kernel_rfl
theorem k149 : compFunc Tryz.prog (modesOf []) (fun _ => [[0, 1, 12, 13]]) 149 = some c149 := by kernel_rfl
theorem k150 : compFunc Tryz.prog (modesOf []) (fun _ => [[0, 1, 12, 13]]) 150 = some c150 := by kernel_rfl
theorem k151 : compFunc Tryz.prog (modesOf []) (fun _ => [[0, 1, 7, 8]]) 151 = some c151 := by kernel_rfl
theorem k152 : compFunc Tryz.prog (modesOf []) (fun _ => []) 152 = some c152 := by kernel_rfl
theorem k153 : compFunc Tryz.prog (modesOf []) (fun _ => []) 153 = some c153 := by kernel_rfl
theorem k154 : compFunc Tryz.prog (modesOf []) (fun _ => []) 154 = some c154 := by kernel_rfl
theorem k155 : compFunc Tryz.prog (modesOf []) (fun _ => []) 155 = some c155 := by kernel_rfl
theorem k156 : compFunc Tryz.prog (modesOf []) (fun _ => [[0, 1, 2, 8, 22, 23], [8, 10, 11]]) 156 = some c156 := by kernel_rfl
theorem k157 : compFunc Tryz.prog (modesOf []) (fun _ => [[0, 1, 2, 8, 21, 22], [1, 2, 8, 10]]) 157 = some c157 := by kernel_rfl
theorem k158 : compFunc Tryz.prog (modesOf []) (fun _ => [[0, 1, 3, 28, 29, 30], [1, 48, 49, 50]]) 158 = some c158 := by kernel_rfl
theorem k159 : compFunc Tryz.prog (modesOf []) (fun _ => [[0, 3, 26, 27, 28]]) 159 = some c159 := by kernel_rfl
theorem k160 : compFunc Tryz.prog (modesOf [(1, 1, .thaw)]) (fun _ => [[0, 2, 23, 24, 25]]) 160 = some c160 := by kernel_rfl
theorem k164 : compFunc Tryz.prog (modesOf [(1, 8, .thaw)]) (fun _ => []) 164 = some c164 := by kernel_rfl
theorem k165 : compFunc Tryz.prog (modesOf []) (fun _ => []) 165 = some c165 := by kernel_rfl
theorem k188 : compFunc Tryz.prog (modesOf [(3, 1, .thaw)]) (fun _ => []) 188 = some c188 := by kernel_rfl
theorem k189 : compFunc Tryz.prog (modesOf []) (fun _ => [[1, 5, 11, 12, 13]]) 189 = some c189 := by kernel_rfl
theorem k190 : compFunc Tryz.prog (modesOf []) (fun _ => []) 190 = some c190 := by kernel_rfl
theorem k191 : compFunc Tryz.prog (modesOf []) (fun _ => [[1, 5, 11, 12, 13]]) 191 = some c191 := by kernel_rfl
theorem k192 : compFunc Tryz.prog (modesOf []) (fun _ => []) 192 = some c192 := by kernel_rfl
theorem k193 : compFunc Tryz.prog (modesOf [(2, 3, .shared)]) (fun _ => [[0, 1]]) 193 = some c193 := by kernel_rfl
theorem k194 : compFunc Tryz.prog (modesOf [(9, 3, .shared)]) (fun _ => [[0, 1, 2, 7]]) 194 = some c194 := by kernel_rfl
theorem k208 : compFunc Tryz.prog (modesOf []) (fun _ => []) 208 = some c208 := by kernel_rfl
theorem k209 : compFunc Tryz.prog (modesOf []) (fun _ => [[0, 1, 7, 8]]) 209 = some c209 := by kernel_rfl
theorem k211 : compFunc Tryz.prog (modesOf []) (fun _ => [[5, 9, 10, 11]]) 211 = some c211 := by kernel_rfl
theorem k212 : compFunc Tryz.prog (modesOf []) (fun _ => []) 212 = some c212 := by kernel_rfl
theorem k213 : compFunc Tryz.prog (modesOf []) (fun _ => []) 213 = some c213 := by kernel_rfl
theorem k214 : compFunc Tryz.prog (modesOf []) (fun _ => []) 214 = some c214 := by kernel_rfl
theorem k230 : compFunc Tryz.prog (modesOf [(3, 1, .thaw)]) (fun _ => []) 230 = some c230 := by kernel_rfl
theorem k235 : compFunc Tryz.prog (modesOf [(1, 1, .thaw), (4, 3, .thaw)]) (fun _ => []) 235 = some c235 := by kernel_rfl
theorem k252 : compFunc Tryz.prog (modesOf []) (fun _ => [[5, 9, 10, 11]]) 252 = some c252 := by kernel_rfl
theorem k265 : compFunc Tryz.prog (modesOf [(1, 1, .thaw)]) (fun _ => []) 265 = some c265 := by kernel_rfl
theorem k268 : compFunc Tryz.prog (modesOf [(4, 2, .thaw), (6, 2, .thaw)]) (fun _ => [[1, 4, 9, 10]]) 268 = some c268 := by kernel_rfl
theorem k269 : compFunc Tryz.prog (modesOf [(1, 4, .thaw)]) (fun _ => []) 269 = some c269 := by kernel_rfl
theorem k275 : compFunc Tryz.prog (modesOf []) (fun _ => []) 275 = some c275 := by kernel_rfl
theorem k350 : compFunc Tryz.prog (modesOf []) (fun _ => []) 350 = some c350 := by kernel_rfl
theorem k351 : compFunc Tryz.prog (modesOf []) (fun _ => []) 351 = some c351 := by kernel_rfl
theorem k352 : compFunc Tryz.prog (modesOf []) (fun _ => []) 352 = some c352 := by kernel_rfl
theorem k353 : compFunc Tryz.prog (modesOf []) (fun _ => []) 353 = some c353 := by kernel_rfl
theorem k354 : compFunc Tryz.prog (modesOf []) (fun _ => []) 354 = some c354 := by kernel_rfl
theorem k355 : compFunc Tryz.prog (modesOf []) (fun _ => [[3, 6, 7, 8]]) 355 = some c355 := by kernel_rfl
theorem k356 : compFunc Tryz.prog (modesOf []) (fun _ => []) 356 = some c356 := by kernel_rfl
theorem k357 : compFunc Tryz.prog (modesOf []) (fun _ => []) 357 = some c357 := by kernel_rfl
theorem k358 : compFunc Tryz.prog (modesOf []) (fun _ => []) 358 = some c358 := by kernel_rfl
theorem k359 : compFunc Tryz.prog (modesOf [(1, 3, .thaw)]) (fun _ => []) 359 = some c359 := by kernel_rfl
theorem k360 : compFunc Tryz.prog (modesOf [(1, 5, .thaw)]) (fun _ => []) 360 = some c360 := by kernel_rfl
theorem k363 : compFunc Tryz.prog (modesOf []) (fun _ => []) 363 = some c363 := by kernel_rfl
theorem k364 : compFunc Tryz.prog (modesOf [(1, 1, .thaw)]) (fun _ => [[0, 2, 9, 24, 25, 26]]) 364 = some c364 := by kernel_rfl
theorem k385 : compFunc Tryz.prog (modesOf [(1, 6, .thaw)]) (fun _ => []) 385 = some c385 := by kernel_rfl
theorem k386 : compFunc Tryz.prog (modesOf [(1, 8, .thaw)]) (fun _ => []) 386 = some c386 := by kernel_rfl
theorem k389 : compFunc Tryz.prog (modesOf []) (fun _ => []) 389 = some c389 := by kernel_rfl
theorem k390 : compFunc Tryz.prog (modesOf [(1, 2, .thaw)]) (fun _ => []) 390 = some c390 := by kernel_rfl
theorem k392 : compFunc Tryz.prog (modesOf []) (fun _ => []) 392 = some c392 := by kernel_rfl
theorem k393 : compFunc Tryz.prog (modesOf []) (fun _ => []) 393 = some c393 := by kernel_rfl
theorem k394 : compFunc Tryz.prog (modesOf []) (fun _ => []) 394 = some c394 := by kernel_rfl
theorem k412 : compFunc Tryz.prog (modesOf [(1, 6, .thaw)]) (fun _ => []) 412 = some c412 := by kernel_rfl
theorem k413 : compFunc Tryz.prog (modesOf [(1, 8, .thaw)]) (fun _ => []) 413 = some c413 := by kernel_rfl
theorem k416 : compFunc Tryz.prog (modesOf []) (fun _ => []) 416 = some c416 := by kernel_rfl
theorem k417 : compFunc Tryz.prog (modesOf [(1, 2, .thaw)]) (fun _ => []) 417 = some c417 := by kernel_rfl
theorem k419 : compFunc Tryz.prog (modesOf []) (fun _ => []) 419 = some c419 := by kernel_rfl
theorem k420 : compFunc Tryz.prog (modesOf []) (fun _ => []) 420 = some c420 := by kernel_rfl
theorem codes_ok : ∀ x ∈ codes, ∃ md lv, compFunc Tryz.prog md lv x.1 = some x.2 := by
  intro x hx
  simp only [codes, List.mem_cons, List.not_mem_nil, or_false] at hx
  rcases hx with rfl | rfl | rfl | rfl | rfl | rfl | rfl | rfl | rfl | rfl | rfl | rfl | rfl | rfl | rfl | rfl | rfl | rfl | rfl | rfl | rfl | rfl | rfl | rfl | rfl | rfl | rfl | rfl | rfl | rfl | rfl | rfl | rfl | rfl | rfl | rfl | rfl | rfl | rfl | rfl | rfl | rfl | rfl | rfl | rfl | rfl | rfl | rfl | rfl | rfl | rfl | rfl | rfl | rfl | rfl | rfl | rfl | rfl | rfl | rfl | rfl | rfl | rfl | rfl | rfl | rfl | rfl | rfl | rfl | rfl | rfl | rfl | rfl | rfl | rfl | rfl | rfl | rfl | rfl | rfl | rfl | rfl | rfl | rfl | rfl | rfl | rfl | rfl | rfl | rfl | rfl | rfl | rfl | rfl | rfl | rfl | rfl | rfl | rfl | rfl | rfl | rfl | rfl | rfl | rfl | rfl | rfl | rfl | rfl | rfl | rfl | rfl | rfl | rfl | rfl | rfl | rfl | rfl | rfl | rfl | rfl | rfl | rfl | rfl | rfl | rfl | rfl | rfl | rfl | rfl | rfl | rfl | rfl | rfl | rfl | rfl | rfl
  · exact ⟨_, _, k3⟩
  · exact ⟨_, _, k5⟩
  · exact ⟨_, _, k6⟩
  · exact ⟨_, _, k7⟩
  · exact ⟨_, _, k12⟩
  · exact ⟨_, _, k13⟩
  · exact ⟨_, _, k14⟩
  · exact ⟨_, _, k15⟩
  · exact ⟨_, _, k16⟩
  · exact ⟨_, _, k19⟩
  · exact ⟨_, _, k22⟩
  · exact ⟨_, _, k23⟩
  · exact ⟨_, _, k25⟩
  · exact ⟨_, _, k26⟩
  · exact ⟨_, _, k27⟩
  · exact ⟨_, _, k28⟩
  · exact ⟨_, _, k29⟩
  · exact ⟨_, _, k30⟩
  · exact ⟨_, _, k31⟩
  · exact ⟨_, _, k32⟩
  · exact ⟨_, _, k33⟩
  · exact ⟨_, _, k34⟩
  · exact ⟨_, _, k35⟩
  · exact ⟨_, _, k36⟩
  · exact ⟨_, _, k37⟩
  · exact ⟨_, _, k40⟩
  · exact ⟨_, _, k44⟩
  · exact ⟨_, _, k47⟩
  · exact ⟨_, _, k50⟩
  · exact ⟨_, _, k51⟩
  · exact ⟨_, _, k52⟩
  · exact ⟨_, _, k53⟩
  · exact ⟨_, _, k54⟩
  · exact ⟨_, _, k65⟩
  · exact ⟨_, _, k66⟩
  · exact ⟨_, _, k67⟩
  · exact ⟨_, _, k68⟩
  · exact ⟨_, _, k69⟩
  · exact ⟨_, _, k72⟩
  · exact ⟨_, _, k73⟩
  · exact ⟨_, _, k74⟩
  · exact ⟨_, _, k75⟩
  · exact ⟨_, _, k76⟩
  · exact ⟨_, _, k77⟩
  · exact ⟨_, _, k78⟩
  · exact ⟨_, _, k79⟩
  · exact ⟨_, _, k80⟩
  · exact ⟨_, _, k81⟩
  · exact ⟨_, _, k82⟩
  · exact ⟨_, _, k83⟩
  · exact ⟨_, _, k87⟩
  · exact ⟨_, _, k93⟩
  · exact ⟨_, _, k94⟩
  · exact ⟨_, _, k95⟩
  · exact ⟨_, _, k96⟩
  · exact ⟨_, _, k99⟩
  · exact ⟨_, _, k100⟩
  · exact ⟨_, _, k101⟩
  · exact ⟨_, _, k102⟩
  · exact ⟨_, _, k104⟩
  · exact ⟨_, _, k105⟩
  · exact ⟨_, _, k106⟩
  · exact ⟨_, _, k107⟩
  · exact ⟨_, _, k110⟩
  · exact ⟨_, _, k116⟩
  · exact ⟨_, _, k117⟩
  · exact ⟨_, _, k118⟩
  · exact ⟨_, _, k121⟩
  · exact ⟨_, _, k122⟩
  · exact ⟨_, _, k123⟩
  · exact ⟨_, _, k124⟩
  · exact ⟨_, _, k125⟩
  · exact ⟨_, _, k127⟩
  · exact ⟨_, _, k143⟩
  · exact ⟨_, _, k144⟩
  · exact ⟨_, _, k145⟩
  · exact ⟨_, _, k148⟩
  · exact ⟨_, _, k149⟩
  · exact ⟨_, _, k150⟩
  · exact ⟨_, _, k151⟩
  · exact ⟨_, _, k152⟩
  · exact ⟨_, _, k153⟩
  · exact ⟨_, _, k154⟩
  · exact ⟨_, _, k155⟩
  · exact ⟨_, _, k156⟩
  · exact ⟨_, _, k157⟩
  · exact ⟨_, _, k158⟩
  · exact ⟨_, _, k159⟩
  · exact ⟨_, _, k160⟩
  · exact ⟨_, _, k164⟩
  · exact ⟨_, _, k165⟩
  · exact ⟨_, _, k188⟩
  · exact ⟨_, _, k189⟩
  · exact ⟨_, _, k190⟩
  · exact ⟨_, _, k191⟩
  · exact ⟨_, _, k192⟩
  · exact ⟨_, _, k193⟩
  · exact ⟨_, _, k194⟩
  · exact ⟨_, _, k208⟩
  · exact ⟨_, _, k209⟩
  · exact ⟨_, _, k211⟩
  · exact ⟨_, _, k212⟩
  · exact ⟨_, _, k213⟩
  · exact ⟨_, _, k214⟩
  · exact ⟨_, _, k230⟩
  · exact ⟨_, _, k235⟩
  · exact ⟨_, _, k252⟩
  · exact ⟨_, _, k265⟩
  · exact ⟨_, _, k268⟩
  · exact ⟨_, _, k269⟩
  · exact ⟨_, _, k275⟩
  · exact ⟨_, _, k350⟩
  · exact ⟨_, _, k351⟩
  · exact ⟨_, _, k352⟩
  · exact ⟨_, _, k353⟩
  · exact ⟨_, _, k354⟩
  · exact ⟨_, _, k355⟩
  · exact ⟨_, _, k356⟩
  · exact ⟨_, _, k357⟩
  · exact ⟨_, _, k358⟩
  · exact ⟨_, _, k359⟩
  · exact ⟨_, _, k360⟩
  · exact ⟨_, _, k363⟩
  · exact ⟨_, _, k364⟩
  · exact ⟨_, _, k385⟩
  · exact ⟨_, _, k386⟩
  · exact ⟨_, _, k389⟩
  · exact ⟨_, _, k390⟩
  · exact ⟨_, _, k392⟩
  · exact ⟨_, _, k393⟩
  · exact ⟨_, _, k394⟩
  · exact ⟨_, _, k412⟩
  · exact ⟨_, _, k413⟩
  · exact ⟨_, _, k416⟩
  · exact ⟨_, _, k417⟩
  · exact ⟨_, _, k419⟩
  · exact ⟨_, _, k420⟩
theorem p126 : PrimOk Tryz.prog 126 sortPrim := sortPrim_ok (canCall_enters (by kernel_rfl))
  (fun p cap w => calls_of_every_depth fun D => AnyS.slices_Sort_int_none_alone Tryz.laysSort D p cap w)
  (fun blk off cap zs w h1 h2 h3 => calls_of_every_depth fun D => AnyS.slices_Sort_int_alone Tryz.laysSort D blk off cap zs w h1 h2 h3)
theorem prims_ok : ∀ x ∈ prims, PrimOk Tryz.prog x.1 x.2 := by
  intro x hx
  simp only [prims, List.mem_cons, List.not_mem_nil, or_false] at hx
  subst hx
  exact p126
theorem Q_ok : Q.Ok Tryz.prog where
  orders := by kernel_rfl
  prim := fun f p h => prims_ok (f, p) (look_mem h)
  code := fun f F h => codes_ok (f, F) (look_mem h)
end Go.Abs
