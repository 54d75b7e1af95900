/-
  The calls of functions of the program answer as their plain forms say, part 1. Printed by a program.
-/
import Derived.Test.YtlfppodekihcmaaGreatDoorRows
import Derived.Test.YtlfppodekihcmaaGreatDoorMB
import Derived.Test.YtlfppodekihcmaaGreatDoorK1
import Derived.Test.YtlfppodekihcmaaGreatDoorWv
import Derived.Test.YtlfppodekihcmaaGreatDoorIt
import Derived.Test.YtlfppodekihcmaaGreatDoorRp
set_option maxRecDepth 20000
set_option maxHeartbeats 4000000
set_option linter.unusedVariables false
set_option linter.unusedSimpArgs false
namespace Go.Proofs.YtlfppodekihcmaaGreatDoor
open Go Go.RowKit Go.Wk
def gl1 : List Value := [iv 0, iv 0]
def gl3 : List Value := gt3.map fun x => u8v x
theorem ck7 : CallOk Tryz.prog 7 := ⟨_, _, Tryz.func7, rfl, by kernel_rfl⟩
theorem ck8 : CallOk Tryz.prog 8 := ⟨_, _, Tryz.func8, rfl, by kernel_rfl⟩
theorem ck9 : CallOk Tryz.prog 9 := ⟨_, _, Tryz.func9, rfl, by kernel_rfl⟩
theorem ck11 : CallOk Tryz.prog 11 := ⟨_, _, Tryz.func11, rfl, by kernel_rfl⟩
theorem ck16 : CallOk Tryz.prog 16 := ⟨_, _, Tryz.func16, rfl, by kernel_rfl⟩
theorem ck20 : CallOk Tryz.prog 20 := ⟨_, _, Tryz.func20, rfl, by kernel_rfl⟩
theorem ck23 : CallOk Tryz.prog 23 := ⟨_, _, Tryz.func23, rfl, by kernel_rfl⟩
theorem ck25 : CallOk Tryz.prog 25 := ⟨_, _, Tryz.func25, rfl, by kernel_rfl⟩
theorem ck30 : CallOk Tryz.prog 30 := ⟨_, _, Tryz.func30, rfl, by kernel_rfl⟩
theorem ck38 : CallOk Tryz.prog 38 := ⟨_, _, Tryz.func38, rfl, by kernel_rfl⟩
theorem ck44 : CallOk Tryz.prog 44 := ⟨_, _, Tryz.func44, rfl, by kernel_rfl⟩
theorem ck51 : CallOk Tryz.prog 51 := ⟨_, _, Tryz.func51, rfl, by kernel_rfl⟩
theorem ck52 : CallOk Tryz.prog 52 := ⟨_, _, Tryz.func52, rfl, by kernel_rfl⟩
theorem ck55 : CallOk Tryz.prog 55 := ⟨_, _, Tryz.func55, rfl, by kernel_rfl⟩
theorem ck57 : CallOk Tryz.prog 57 := ⟨_, _, Tryz.func57, rfl, by kernel_rfl⟩
theorem ck58 : CallOk Tryz.prog 58 := ⟨_, _, Tryz.func58, rfl, by kernel_rfl⟩
theorem ck59 : CallOk Tryz.prog 59 := ⟨_, _, Tryz.func59, rfl, by kernel_rfl⟩
theorem ck60 : CallOk Tryz.prog 60 := ⟨_, _, Tryz.func60, rfl, by kernel_rfl⟩
theorem ck67 : CallOk Tryz.prog 67 := ⟨_, _, Tryz.func67, rfl, by kernel_rfl⟩
theorem ck69 : CallOk Tryz.prog 69 := ⟨_, _, Tryz.func69, rfl, by kernel_rfl⟩
theorem ck73 : CallOk Tryz.prog 73 := ⟨_, _, Tryz.func73, rfl, by kernel_rfl⟩
theorem ck74 : CallOk Tryz.prog 74 := ⟨_, _, Tryz.func74, rfl, by kernel_rfl⟩
theorem ck75 : CallOk Tryz.prog 75 := ⟨_, _, Tryz.func75, rfl, by kernel_rfl⟩
theorem ck85 : CallOk Tryz.prog 85 := ⟨_, _, Tryz.func85, rfl, by kernel_rfl⟩
theorem ck86 : CallOk Tryz.prog 86 := ⟨_, _, Tryz.func86, rfl, by kernel_rfl⟩
theorem ck87 : CallOk Tryz.prog 87 := ⟨_, _, Tryz.func87, rfl, by kernel_rfl⟩
theorem ck94 : CallOk Tryz.prog 94 := ⟨_, _, Tryz.func94, rfl, by kernel_rfl⟩
theorem ck99 : CallOk Tryz.prog 99 := ⟨_, _, Tryz.func99, rfl, by kernel_rfl⟩
theorem ck100 : CallOk Tryz.prog 100 := ⟨_, _, Tryz.func100, rfl, by kernel_rfl⟩
theorem ck101 : CallOk Tryz.prog 101 := ⟨_, _, Tryz.func101, rfl, by kernel_rfl⟩
theorem ck102 : CallOk Tryz.prog 102 := ⟨_, _, Tryz.func102, rfl, by kernel_rfl⟩
theorem ck112 : CallOk Tryz.prog 112 := ⟨_, _, Tryz.func112, rfl, by kernel_rfl⟩
theorem ck114 : CallOk Tryz.prog 114 := ⟨_, _, Tryz.func114, rfl, by kernel_rfl⟩
theorem ck121 : CallOk Tryz.prog 121 := ⟨_, _, Tryz.func121, rfl, by kernel_rfl⟩
theorem ck122 : CallOk Tryz.prog 122 := ⟨_, _, Tryz.func122, rfl, by kernel_rfl⟩
theorem ck123 : CallOk Tryz.prog 123 := ⟨_, _, Tryz.func123, rfl, by kernel_rfl⟩
theorem ck124 : CallOk Tryz.prog 124 := ⟨_, _, Tryz.func124, rfl, by kernel_rfl⟩
theorem ck125 : CallOk Tryz.prog 125 := ⟨_, _, Tryz.func125, rfl, by kernel_rfl⟩
theorem ck126 : CallOk Tryz.prog 126 := ⟨_, _, Tryz.func126, rfl, by kernel_rfl⟩
theorem ck127 : CallOk Tryz.prog 127 := ⟨_, _, Tryz.func127, rfl, by kernel_rfl⟩
theorem ck128 : CallOk Tryz.prog 128 := ⟨_, _, Tryz.func128, rfl, by kernel_rfl⟩
theorem ck154 : CallOk Tryz.prog 154 := ⟨_, _, Tryz.func154, rfl, by kernel_rfl⟩
theorem ck155 : CallOk Tryz.prog 155 := ⟨_, _, Tryz.func155, rfl, by kernel_rfl⟩
theorem ck156 : CallOk Tryz.prog 156 := ⟨_, _, Tryz.func156, rfl, by kernel_rfl⟩
theorem ck157 : CallOk Tryz.prog 157 := ⟨_, _, Tryz.func157, rfl, by kernel_rfl⟩
theorem ck158 : CallOk Tryz.prog 158 := ⟨_, _, Tryz.func158, rfl, by kernel_rfl⟩
theorem ck159 : CallOk Tryz.prog 159 := ⟨_, _, Tryz.func159, rfl, by kernel_rfl⟩
theorem ck160 : CallOk Tryz.prog 160 := ⟨_, _, Tryz.func160, rfl, by kernel_rfl⟩
theorem ck161 : CallOk Tryz.prog 161 := ⟨_, _, Tryz.func161, rfl, by kernel_rfl⟩
theorem ck162 : CallOk Tryz.prog 162 := ⟨_, _, Tryz.func162, rfl, by kernel_rfl⟩
theorem ck163 : CallOk Tryz.prog 163 := ⟨_, _, Tryz.func163, rfl, by kernel_rfl⟩
theorem ck164 : CallOk Tryz.prog 164 := ⟨_, _, Tryz.func164, rfl, by kernel_rfl⟩
theorem ck165 : CallOk Tryz.prog 165 := ⟨_, _, Tryz.func165, rfl, by kernel_rfl⟩
theorem ck166 : CallOk Tryz.prog 166 := ⟨_, _, Tryz.func166, rfl, by kernel_rfl⟩
theorem ck167 : CallOk Tryz.prog 167 := ⟨_, _, Tryz.func167, rfl, by kernel_rfl⟩
theorem ck191 : CallOk Tryz.prog 191 := ⟨_, _, Tryz.func191, rfl, by kernel_rfl⟩
theorem ck192 : CallOk Tryz.prog 192 := ⟨_, _, Tryz.func192, rfl, by kernel_rfl⟩
theorem ck193 : CallOk Tryz.prog 193 := ⟨_, _, Tryz.func193, rfl, by kernel_rfl⟩
theorem ck194 : CallOk Tryz.prog 194 := ⟨_, _, Tryz.func194, rfl, by kernel_rfl⟩
theorem ck195 : CallOk Tryz.prog 195 := ⟨_, _, Tryz.func195, rfl, by kernel_rfl⟩
theorem ck196 : CallOk Tryz.prog 196 := ⟨_, _, Tryz.func196, rfl, by kernel_rfl⟩
theorem ck197 : CallOk Tryz.prog 197 := ⟨_, _, Tryz.func197, rfl, by kernel_rfl⟩
theorem ck198 : CallOk Tryz.prog 198 := ⟨_, _, Tryz.func198, rfl, by kernel_rfl⟩
theorem ck199 : CallOk Tryz.prog 199 := ⟨_, _, Tryz.func199, rfl, by kernel_rfl⟩
theorem ck200 : CallOk Tryz.prog 200 := ⟨_, _, Tryz.func200, rfl, by kernel_rfl⟩
theorem ck201 : CallOk Tryz.prog 201 := ⟨_, _, Tryz.func201, rfl, by kernel_rfl⟩
theorem ck202 : CallOk Tryz.prog 202 := ⟨_, _, Tryz.func202, rfl, by kernel_rfl⟩
theorem ck203 : CallOk Tryz.prog 203 := ⟨_, _, Tryz.func203, rfl, by kernel_rfl⟩
theorem ck204 : CallOk Tryz.prog 204 := ⟨_, _, Tryz.func204, rfl, by kernel_rfl⟩
theorem ck205 : CallOk Tryz.prog 205 := ⟨_, _, Tryz.func205, rfl, by kernel_rfl⟩
theorem ck206 : CallOk Tryz.prog 206 := ⟨_, _, Tryz.func206, rfl, by kernel_rfl⟩
theorem ck207 : CallOk Tryz.prog 207 := ⟨_, _, Tryz.func207, rfl, by kernel_rfl⟩
theorem ck208 : CallOk Tryz.prog 208 := ⟨_, _, Tryz.func208, rfl, by kernel_rfl⟩
theorem ck209 : CallOk Tryz.prog 209 := ⟨_, _, Tryz.func209, rfl, by kernel_rfl⟩
theorem ck210 : CallOk Tryz.prog 210 := ⟨_, _, Tryz.func210, rfl, by kernel_rfl⟩
theorem ck211 : CallOk Tryz.prog 211 := ⟨_, _, Tryz.func211, rfl, by kernel_rfl⟩
theorem ck212 : CallOk Tryz.prog 212 := ⟨_, _, Tryz.func212, rfl, by kernel_rfl⟩
theorem ck213 : CallOk Tryz.prog 213 := ⟨_, _, Tryz.func213, rfl, by kernel_rfl⟩
theorem ck214 : CallOk Tryz.prog 214 := ⟨_, _, Tryz.func214, rfl, by kernel_rfl⟩
theorem ck215 : CallOk Tryz.prog 215 := ⟨_, _, Tryz.func215, rfl, by kernel_rfl⟩
theorem ck216 : CallOk Tryz.prog 216 := ⟨_, _, Tryz.func216, rfl, by kernel_rfl⟩
theorem ck226 : CallOk Tryz.prog 226 := ⟨_, _, Tryz.func226, rfl, by kernel_rfl⟩
theorem ck227 : CallOk Tryz.prog 227 := ⟨_, _, Tryz.func227, rfl, by kernel_rfl⟩
theorem ck228 : CallOk Tryz.prog 228 := ⟨_, _, Tryz.func228, rfl, by kernel_rfl⟩
theorem ck229 : CallOk Tryz.prog 229 := ⟨_, _, Tryz.func229, rfl, by kernel_rfl⟩
theorem ck230 : CallOk Tryz.prog 230 := ⟨_, _, Tryz.func230, rfl, by kernel_rfl⟩
theorem ck231 : CallOk Tryz.prog 231 := ⟨_, _, Tryz.func231, rfl, by kernel_rfl⟩
theorem ck232 : CallOk Tryz.prog 232 := ⟨_, _, Tryz.func232, rfl, by kernel_rfl⟩
theorem ck233 : CallOk Tryz.prog 233 := ⟨_, _, Tryz.func233, rfl, by kernel_rfl⟩
theorem ck234 : CallOk Tryz.prog 234 := ⟨_, _, Tryz.func234, rfl, by kernel_rfl⟩
theorem ck235 : CallOk Tryz.prog 235 := ⟨_, _, Tryz.func235, rfl, by kernel_rfl⟩
theorem ck236 : CallOk Tryz.prog 236 := ⟨_, _, Tryz.func236, rfl, by kernel_rfl⟩
theorem ck237 : CallOk Tryz.prog 237 := ⟨_, _, Tryz.func237, rfl, by kernel_rfl⟩
theorem ck238 : CallOk Tryz.prog 238 := ⟨_, _, Tryz.func238, rfl, by kernel_rfl⟩
theorem ck239 : CallOk Tryz.prog 239 := ⟨_, _, Tryz.func239, rfl, by kernel_rfl⟩
theorem ck240 : CallOk Tryz.prog 240 := ⟨_, _, Tryz.func240, rfl, by kernel_rfl⟩
theorem ck241 : CallOk Tryz.prog 241 := ⟨_, _, Tryz.func241, rfl, by kernel_rfl⟩
theorem ck242 : CallOk Tryz.prog 242 := ⟨_, _, Tryz.func242, rfl, by kernel_rfl⟩
theorem ck243 : CallOk Tryz.prog 243 := ⟨_, _, Tryz.func243, rfl, by kernel_rfl⟩
theorem ck244 : CallOk Tryz.prog 244 := ⟨_, _, Tryz.func244, rfl, by kernel_rfl⟩
theorem ck245 : CallOk Tryz.prog 245 := ⟨_, _, Tryz.func245, rfl, by kernel_rfl⟩
theorem ck246 : CallOk Tryz.prog 246 := ⟨_, _, Tryz.func246, rfl, by kernel_rfl⟩
theorem ck247 : CallOk Tryz.prog 247 := ⟨_, _, Tryz.func247, rfl, by kernel_rfl⟩
theorem ck248 : CallOk Tryz.prog 248 := ⟨_, _, Tryz.func248, rfl, by kernel_rfl⟩
theorem ck249 : CallOk Tryz.prog 249 := ⟨_, _, Tryz.func249, rfl, by kernel_rfl⟩
theorem ck250 : CallOk Tryz.prog 250 := ⟨_, _, Tryz.func250, rfl, by kernel_rfl⟩
theorem ck251 : CallOk Tryz.prog 251 := ⟨_, _, Tryz.func251, rfl, by kernel_rfl⟩
theorem ck252 : CallOk Tryz.prog 252 := ⟨_, _, Tryz.func252, rfl, by kernel_rfl⟩
theorem ck253 : CallOk Tryz.prog 253 := ⟨_, _, Tryz.func253, rfl, by kernel_rfl⟩
theorem ck254 : CallOk Tryz.prog 254 := ⟨_, _, Tryz.func254, rfl, by kernel_rfl⟩
theorem ck255 : CallOk Tryz.prog 255 := ⟨_, _, Tryz.func255, rfl, by kernel_rfl⟩
theorem ck256 : CallOk Tryz.prog 256 := ⟨_, _, Tryz.func256, rfl, by kernel_rfl⟩
theorem ck263 : CallOk Tryz.prog 263 := ⟨_, _, Tryz.func263, rfl, by kernel_rfl⟩
theorem ck264 : CallOk Tryz.prog 264 := ⟨_, _, Tryz.func264, rfl, by kernel_rfl⟩
theorem ck265 : CallOk Tryz.prog 265 := ⟨_, _, Tryz.func265, rfl, by kernel_rfl⟩
theorem ck266 : CallOk Tryz.prog 266 := ⟨_, _, Tryz.func266, rfl, by kernel_rfl⟩
theorem ck267 : CallOk Tryz.prog 267 := ⟨_, _, Tryz.func267, rfl, by kernel_rfl⟩
theorem ck268 : CallOk Tryz.prog 268 := ⟨_, _, Tryz.func268, rfl, by kernel_rfl⟩
theorem ck269 : CallOk Tryz.prog 269 := ⟨_, _, Tryz.func269, rfl, by kernel_rfl⟩
theorem ck270 : CallOk Tryz.prog 270 := ⟨_, _, Tryz.func270, rfl, by kernel_rfl⟩
theorem ck271 : CallOk Tryz.prog 271 := ⟨_, _, Tryz.func271, rfl, by kernel_rfl⟩
theorem ck272 : CallOk Tryz.prog 272 := ⟨_, _, Tryz.func272, rfl, by kernel_rfl⟩
theorem ck273 : CallOk Tryz.prog 273 := ⟨_, _, Tryz.func273, rfl, by kernel_rfl⟩
theorem ck274 : CallOk Tryz.prog 274 := ⟨_, _, Tryz.func274, rfl, by kernel_rfl⟩
theorem ck275 : CallOk Tryz.prog 275 := ⟨_, _, Tryz.func275, rfl, by kernel_rfl⟩
theorem ck278 : CallOk Tryz.prog 278 := ⟨_, _, Tryz.func278, rfl, by kernel_rfl⟩
theorem ck279 : CallOk Tryz.prog 279 := ⟨_, _, Tryz.func279, rfl, by kernel_rfl⟩
theorem ck283 : CallOk Tryz.prog 283 := ⟨_, _, Tryz.func283, rfl, by kernel_rfl⟩
theorem ck284 : CallOk Tryz.prog 284 := ⟨_, _, Tryz.func284, rfl, by kernel_rfl⟩
theorem ck285 : CallOk Tryz.prog 285 := ⟨_, _, Tryz.func285, rfl, by kernel_rfl⟩
theorem ck286 : CallOk Tryz.prog 286 := ⟨_, _, Tryz.func286, rfl, by kernel_rfl⟩
theorem ck287 : CallOk Tryz.prog 287 := ⟨_, _, Tryz.func287, rfl, by kernel_rfl⟩
theorem ck288 : CallOk Tryz.prog 288 := ⟨_, _, Tryz.func288, rfl, by kernel_rfl⟩
theorem ck289 : CallOk Tryz.prog 289 := ⟨_, _, Tryz.func289, rfl, by kernel_rfl⟩
theorem ck290 : CallOk Tryz.prog 290 := ⟨_, _, Tryz.func290, rfl, by kernel_rfl⟩
theorem ck291 : CallOk Tryz.prog 291 := ⟨_, _, Tryz.func291, rfl, by kernel_rfl⟩
theorem ck294 : CallOk Tryz.prog 294 := ⟨_, _, Tryz.func294, rfl, by kernel_rfl⟩
theorem ck295 : CallOk Tryz.prog 295 := ⟨_, _, Tryz.func295, rfl, by kernel_rfl⟩
theorem ck296 : CallOk Tryz.prog 296 := ⟨_, _, Tryz.func296, rfl, by kernel_rfl⟩
theorem ck297 : CallOk Tryz.prog 297 := ⟨_, _, Tryz.func297, rfl, by kernel_rfl⟩
theorem ck298 : CallOk Tryz.prog 298 := ⟨_, _, Tryz.func298, rfl, by kernel_rfl⟩
theorem st50 : StOk Tryz.prog 50 [.int .i64 0, .int .i64 0] [(0, 1), (1, 1)] := ⟨Tryz.zeroValue50, _, Tryz.underlying50, fun w => by kernel_rfl⟩
theorem st86 : StOk Tryz.prog 86 [.pointer none, .slice none 0 0] [(0, 1), (1, 1)] := ⟨Tryz.zeroValue86, _, Tryz.underlying86, fun w => by kernel_rfl⟩
theorem st148 : StOk Tryz.prog 148 [.int .i64 0, .slice none 0 0] [(0, 1), (1, 1)] := ⟨Tryz.zeroValue148, _, Tryz.underlying148, fun w => by kernel_rfl⟩
theorem st150 : StOk Tryz.prog 150 [.int .i64 0, .int .u64 0, .int .i64 0, .slice none 0 0, .int .i64 0, .slice none 0 0] [(0, 1), (1, 1), (2, 2), (4, 2)] := ⟨Tryz.zeroValue150, _, Tryz.underlying150, fun w => by kernel_rfl⟩
theorem st152 : StOk Tryz.prog 152 [Str [], .slice none 0 0, .int .i64 0, .int .i64 0, .bool false, .int .i64 0, .int .i64 0, .int .i64 0, .int .u64 0, .int .u64 0, .int .i64 0, .int .u64 0, .int .i64 0, .slice none 0 0, .int .i64 0, .slice none 0 0, .int .i64 0] [(0, 1), (1, 1), (2, 1), (3, 1), (4, 1), (5, 1), (6, 1), (7, 1), (8, 1), (9, 1), (10, 6), (16, 1)] := ⟨Tryz.zeroValue152, _, Tryz.underlying152, fun w => by kernel_rfl⟩
theorem st154 : StOk Tryz.prog 154 [.int .i64 0, Str [], .slice none 0 0, .int .i64 0, .int .i64 0, .bool false, .int .i64 0, .int .i64 0, .int .i64 0, .int .u64 0, .int .u64 0, .int .i64 0, .int .u64 0, .int .i64 0, .slice none 0 0, .int .i64 0, .slice none 0 0, .int .i64 0] [(0, 1), (1, 17)] := ⟨Tryz.zeroValue154, _, Tryz.underlying154, fun w => by kernel_rfl⟩
theorem st170 : StOk Tryz.prog 170 [.int .i64 0, .int .i64 0, .slice none 0 0] [(0, 1), (1, 1), (2, 1)] := ⟨Tryz.zeroValue170, _, Tryz.underlying170, fun w => by kernel_rfl⟩
theorem st175 : StOk Tryz.prog 175 [.int .i64 0, .slice none 0 0, .slice none 0 0, Str [], .int .i64 0] [(0, 1), (1, 1), (2, 1), (3, 1), (4, 1)] := ⟨Tryz.zeroValue175, _, Tryz.underlying175, fun w => by kernel_rfl⟩
theorem st228 : StOk Tryz.prog 228 [Str [], Str []] [(0, 1), (1, 1)] := ⟨Tryz.zeroValue228, _, Tryz.underlying228, fun w => by kernel_rfl⟩
theorem st242 : StOk Tryz.prog 242 [.slice none 0 0, .int .i64 0, .int .i64 0] [(0, 1), (1, 1), (2, 1)] := ⟨Tryz.zeroValue242, _, Tryz.underlying242, fun w => by kernel_rfl⟩
theorem st253 : StOk Tryz.prog 253 [.pointer none, .pointer none, .pointer none, .pointer none, .pointer none, .pointer none, .pointer none] [(0, 1), (1, 1), (2, 1), (3, 1), (4, 1), (5, 1), (6, 1)] := ⟨Tryz.zeroValue253, _, Tryz.underlying253, fun w => by kernel_rfl⟩
theorem st256 : StOk Tryz.prog 256 [.pointer none, .pointer none, .pointer none, .pointer none, .pointer none, .pointer none, .pointer none, .pointer none, .int .i64 0] [(0, 1), (1, 7), (8, 1)] := ⟨Tryz.zeroValue256, _, Tryz.underlying256, fun w => by kernel_rfl⟩
theorem st283 : StOk Tryz.prog 283 [.slice none 0 0, .int .i64 0, .int .i64 0] [(0, 1), (1, 1), (2, 1)] := ⟨Tryz.zeroValue283, _, Tryz.underlying283, fun w => by kernel_rfl⟩
theorem st310 : StOk Tryz.prog 310 [.int .i64 0, .int .u64 0, .int .u64 0] [(0, 1), (1, 1), (2, 1)] := ⟨Tryz.zeroValue310, _, Tryz.underlying310, fun w => by kernel_rfl⟩
theorem st312 : StOk Tryz.prog 312 [.int .i64 0, .int .i64 0] [(0, 1), (1, 1)] := ⟨Tryz.zeroValue312, _, Tryz.underlying312, fun w => by kernel_rfl⟩
theorem st314 : StOk Tryz.prog 314 [.int .i64 0, .int .u64 0, .int .i64 0, .int .i64 0] [(0, 1), (1, 1), (2, 2)] := ⟨Tryz.zeroValue314, _, Tryz.underlying314, fun w => by kernel_rfl⟩
theorem st316 : StOk Tryz.prog 316 [.int .i64 0, .int .i64 0, .int .u64 0, .int .i64 0, .slice none 0 0, .int .i64 0, .slice none 0 0] [(0, 1), (1, 6)] := ⟨Tryz.zeroValue316, _, Tryz.underlying316, fun w => by kernel_rfl⟩
theorem st324 : StOk Tryz.prog 324 [.pointer none, .int .i64 0] [(0, 1), (1, 1)] := ⟨Tryz.zeroValue324, _, Tryz.underlying324, fun w => by kernel_rfl⟩
theorem st328 : StOk Tryz.prog 328 [.int .i64 0, .int .i64 0, .int .i64 0, .int .i64 0, .int .i64 0] [(0, 1), (1, 1), (2, 1), (3, 1), (4, 1)] := ⟨Tryz.zeroValue328, _, Tryz.underlying328, fun w => by kernel_rfl⟩
theorem ar336 : ArOk Tryz.prog 336 [.int .i64 0, .slice none 0 0, .int .i64 0, .slice none 0 0] 2 2 148 := ⟨Tryz.zeroValue336, Tryz.underlying336, Tryz.sizeOf148⟩
theorem ar349 : ArOk Tryz.prog 349 [.int .i64 0, .int .i64 0, .int .i64 0, .int .i64 0] 4 1 3 := ⟨Tryz.zeroValue349, Tryz.underlying349, Tryz.sizeOf3⟩
theorem ar358 : ArOk Tryz.prog 358 [.int .i64 0, .int .i64 0, .int .i64 0, .int .i64 0, .int .i64 0] 5 1 3 := ⟨Tryz.zeroValue358, Tryz.underlying358, Tryz.sizeOf3⟩
theorem ar365 : ArOk Tryz.prog 365 [.int .u8 0, .int .u8 0, .int .u8 0, .int .u8 0, .int .u8 0, .int .u8 0, .int .u8 0, .int .u8 0, .int .u8 0, .int .u8 0, .int .u8 0, .int .u8 0, .int .u8 0, .int .u8 0, .int .u8 0, .int .u8 0, .int .u8 0, .int .u8 0, .int .u8 0, .int .u8 0, .int .u8 0, .int .u8 0, .int .u8 0, .int .u8 0, .int .u8 0, .int .u8 0, .int .u8 0, .int .u8 0, .int .u8 0, .int .u8 0, .int .u8 0, .int .u8 0, .int .u8 0, .int .u8 0, .int .u8 0, .int .u8 0, .int .u8 0, .int .u8 0, .int .u8 0, .int .u8 0, .int .u8 0, .int .u8 0, .int .u8 0, .int .u8 0, .int .u8 0, .int .u8 0, .int .u8 0, .int .u8 0, .int .u8 0, .int .u8 0, .int .u8 0, .int .u8 0, .int .u8 0, .int .u8 0, .int .u8 0, .int .u8 0, .int .u8 0, .int .u8 0, .int .u8 0, .int .u8 0, .int .u8 0, .int .u8 0, .int .u8 0, .int .u8 0] 64 1 5 := ⟨Tryz.zeroValue365, Tryz.underlying365, Tryz.sizeOf5⟩
theorem fo50 : FoOk Tryz.prog 50 [0, 1] := ⟨_, Tryz.underlying50, ⟨_, Tryz.sizeOf3, rfl⟩, rfl, ⟨_, Tryz.sizeOf3, rfl⟩, rfl, trivial⟩
theorem fo86 : FoOk Tryz.prog 86 [0, 1] := ⟨_, Tryz.underlying86, ⟨_, Tryz.sizeOf28, rfl⟩, rfl, ⟨_, Tryz.sizeOf41, rfl⟩, rfl, trivial⟩
theorem fo148 : FoOk Tryz.prog 148 [0, 1] := ⟨_, Tryz.underlying148, ⟨_, Tryz.sizeOf3, rfl⟩, rfl, ⟨_, Tryz.sizeOf146, rfl⟩, rfl, trivial⟩
theorem fo150 : FoOk Tryz.prog 150 [0, 1, 2, 4] := ⟨_, Tryz.underlying150, ⟨_, Tryz.sizeOf3, rfl⟩, rfl, ⟨_, Tryz.sizeOf137, rfl⟩, rfl, ⟨_, Tryz.sizeOf148, rfl⟩, rfl, ⟨_, Tryz.sizeOf148, rfl⟩, rfl, trivial⟩
theorem fo152 : FoOk Tryz.prog 152 [0, 1, 2, 3, 4, 5, 6, 7, 8, 9, 10, 16] := ⟨_, Tryz.underlying152, ⟨_, Tryz.sizeOf9, rfl⟩, rfl, ⟨_, Tryz.sizeOf145, rfl⟩, rfl, ⟨_, Tryz.sizeOf3, rfl⟩, rfl, ⟨_, Tryz.sizeOf3, rfl⟩, rfl, ⟨_, Tryz.sizeOf4, rfl⟩, rfl, ⟨_, Tryz.sizeOf3, rfl⟩, rfl, ⟨_, Tryz.sizeOf3, rfl⟩, rfl, ⟨_, Tryz.sizeOf3, rfl⟩, rfl, ⟨_, Tryz.sizeOf137, rfl⟩, rfl, ⟨_, Tryz.sizeOf137, rfl⟩, rfl, ⟨_, Tryz.sizeOf150, rfl⟩, rfl, ⟨_, Tryz.sizeOf3, rfl⟩, rfl, trivial⟩
theorem fo154 : FoOk Tryz.prog 154 [0, 1] := ⟨_, Tryz.underlying154, ⟨_, Tryz.sizeOf3, rfl⟩, rfl, ⟨_, Tryz.sizeOf152, rfl⟩, rfl, trivial⟩
theorem fo170 : FoOk Tryz.prog 170 [0, 1, 2] := ⟨_, Tryz.underlying170, ⟨_, Tryz.sizeOf3, rfl⟩, rfl, ⟨_, Tryz.sizeOf3, rfl⟩, rfl, ⟨_, Tryz.sizeOf87, rfl⟩, rfl, trivial⟩
theorem fo175 : FoOk Tryz.prog 175 [0, 1, 2, 3, 4] := ⟨_, Tryz.underlying175, ⟨_, Tryz.sizeOf3, rfl⟩, rfl, ⟨_, Tryz.sizeOf96, rfl⟩, rfl, ⟨_, Tryz.sizeOf108, rfl⟩, rfl, ⟨_, Tryz.sizeOf9, rfl⟩, rfl, ⟨_, Tryz.sizeOf3, rfl⟩, rfl, trivial⟩
theorem fo228 : FoOk Tryz.prog 228 [0, 1] := ⟨_, Tryz.underlying228, ⟨_, Tryz.sizeOf9, rfl⟩, rfl, ⟨_, Tryz.sizeOf9, rfl⟩, rfl, trivial⟩
theorem fo242 : FoOk Tryz.prog 242 [0, 1, 2] := ⟨_, Tryz.underlying242, ⟨_, Tryz.sizeOf51, rfl⟩, rfl, ⟨_, Tryz.sizeOf3, rfl⟩, rfl, ⟨_, Tryz.sizeOf26, rfl⟩, rfl, trivial⟩
theorem fo253 : FoOk Tryz.prog 253 [0, 1, 2, 3, 4, 5, 6] := ⟨_, Tryz.underlying253, ⟨_, Tryz.sizeOf249, rfl⟩, rfl, ⟨_, Tryz.sizeOf249, rfl⟩, rfl, ⟨_, Tryz.sizeOf249, rfl⟩, rfl, ⟨_, Tryz.sizeOf249, rfl⟩, rfl, ⟨_, Tryz.sizeOf250, rfl⟩, rfl, ⟨_, Tryz.sizeOf250, rfl⟩, rfl, ⟨_, Tryz.sizeOf251, rfl⟩, rfl, trivial⟩
theorem fo256 : FoOk Tryz.prog 256 [0, 1, 8] := ⟨_, Tryz.underlying256, ⟨_, Tryz.sizeOf245, rfl⟩, rfl, ⟨_, Tryz.sizeOf253, rfl⟩, rfl, ⟨_, Tryz.sizeOf26, rfl⟩, rfl, trivial⟩
theorem fo283 : FoOk Tryz.prog 283 [0, 1, 2] := ⟨_, Tryz.underlying283, ⟨_, Tryz.sizeOf51, rfl⟩, rfl, ⟨_, Tryz.sizeOf3, rfl⟩, rfl, ⟨_, Tryz.sizeOf3, rfl⟩, rfl, trivial⟩
theorem fo310 : FoOk Tryz.prog 310 [0, 1, 2] := ⟨_, Tryz.underlying310, ⟨_, Tryz.sizeOf3, rfl⟩, rfl, ⟨_, Tryz.sizeOf137, rfl⟩, rfl, ⟨_, Tryz.sizeOf137, rfl⟩, rfl, trivial⟩
theorem fo312 : FoOk Tryz.prog 312 [0, 1] := ⟨_, Tryz.underlying312, ⟨_, Tryz.sizeOf3, rfl⟩, rfl, ⟨_, Tryz.sizeOf3, rfl⟩, rfl, trivial⟩
theorem fo314 : FoOk Tryz.prog 314 [0, 1, 2] := ⟨_, Tryz.underlying314, ⟨_, Tryz.sizeOf3, rfl⟩, rfl, ⟨_, Tryz.sizeOf137, rfl⟩, rfl, ⟨_, Tryz.sizeOf312, rfl⟩, rfl, trivial⟩
theorem fo316 : FoOk Tryz.prog 316 [0, 1] := ⟨_, Tryz.underlying316, ⟨_, Tryz.sizeOf3, rfl⟩, rfl, ⟨_, Tryz.sizeOf150, rfl⟩, rfl, trivial⟩
theorem fo324 : FoOk Tryz.prog 324 [0, 1] := ⟨_, Tryz.underlying324, ⟨_, Tryz.sizeOf245, rfl⟩, rfl, ⟨_, Tryz.sizeOf26, rfl⟩, rfl, trivial⟩
def tab : List (Nat × List Nat) := [(50, [0, 1]), (86, [0, 1]), (148, [0, 1]), (150, [0, 1, 2, 4]), (152, [0, 1, 2, 3, 4, 5, 6, 7, 8, 9, 10, 16]), (154, [0, 1]), (170, [0, 1, 2]), (175, [0, 1, 2, 3, 4]), (228, [0, 1]), (242, [0, 1, 2]), (253, [0, 1, 2, 3, 4, 5, 6]), (256, [0, 1, 8]), (283, [0, 1, 2]), (310, [0, 1, 2]), (312, [0, 1]), (314, [0, 1, 2]), (316, [0, 1]), (324, [0, 1])]
theorem tabOk : TabOk Tryz.prog tab := (.cons fo50 (.cons fo86 (.cons fo148 (.cons fo150 (.cons fo152 (.cons fo154 (.cons fo170 (.cons fo175 (.cons fo228 (.cons fo242 (.cons fo253 (.cons fo256 (.cons fo283 (.cons fo310 (.cons fo312 (.cons fo314 (.cons fo316 (.cons fo324 TabOk.nil))))))))))))))))))
theorem gg {f : FuncId} {n : Nat} {R : Ending → World → Prop} {k k' : List Item} {e e' : Env} {w : World} (m : Nat) (h : sr tab n m k e = some (k', e')) (hr : Rn Tryz.prog f n R k' e' w) : Rn Tryz.prog f n R k e w := sr_ok tabOk m k e h hr
theorem dd {n : Nat} {K : Act → World → Prop} {S : World → Prop} {w : World} {ops : Array Oper} {fuel : Nat} {listed : Array Bool} {e e' : Env} (is : List Nat) (hk : okTakes ops listed is = true) (hf : Nat.ble is.length fuel = true) (h : dr tab n ops is e = some e') (hr : RG Tryz.prog n K ops S (fuel - is.length) (taken listed is) e' w) : RG Tryz.prog n K ops S fuel listed e w := dr_ok tabOk is hk hf h hr
theorem T_api_Span.relE {Z : Nat → Prop} {w : World} {vs : List _root_.Go.Value} {x : T_api_Span} (h : T_api_Span.rep.rel Z w vs x) : vs = [iv x.First, iv x.End] := by
  obtain ⟨_, _, rfl, ⟨rfl, _⟩, ⟨rfl, _⟩⟩ := h
  exact rfl
theorem T_api_Pair.relE {Z : Nat → Prop} {w : World} {vs : List _root_.Go.Value} {x : T_api_Pair} (h : T_api_Pair.rep.rel Z w vs x) : vs = [Str (x.Key), Str (x.Val)] := by
  obtain ⟨_, _, rfl, ⟨rfl, _⟩, ⟨rfl, _⟩⟩ := h
  exact rfl
theorem T_api_Side.relE {Z : Nat → Prop} {w : World} {vs : List _root_.Go.Value} {x : T_api_Side} (h : T_api_Side.rep.rel Z w vs x) : ∃ (Ar1 : Option Addr) (cr1 : Nat), vs = [iv x.Offset, .slice Ar1 (x.Counts).length cr1] ∧ (slR Ar1 cr1 w64R x.Counts).H Z w := by
  obtain ⟨_, _, rfl, ⟨rfl, _⟩, ⟨Ar1, cr1, rfl, p1, q1, s1⟩⟩ := h
  exact ⟨Ar1, cr1, rfl, ⟨p1, q1, s1⟩⟩
theorem T_api_Hist.relE {Z : Nat → Prop} {w : World} {vs : List _root_.Go.Value} {x : T_api_Hist} (h : T_api_Hist.rep.rel Z w vs x) : ∃ (Ar1 : Option Addr) (cr1 : Nat) (Ar3 : Option Addr) (cr3 : Nat), vs = [iv x.Scale, u64v x.Zero, iv x.Pos.Offset, .slice Ar1 (x.Pos.Counts).length cr1, iv x.Neg.Offset, .slice Ar3 (x.Neg.Counts).length cr3] ∧ (slR Ar1 cr1 w64R x.Pos.Counts).H Z w ∧ (slR Ar3 cr3 w64R x.Neg.Counts).H Z w := by
  obtain ⟨_, _, rfl, ⟨rfl, _⟩, ⟨_, _, rfl, ⟨rfl, _⟩, ⟨_, _, rfl, ⟨_, _, rfl, ⟨rfl, _⟩, ⟨Ar1, cr1, rfl, p1, q1, s1⟩⟩, ⟨_, _, rfl, ⟨rfl, _⟩, ⟨Ar3, cr3, rfl, p3, q3, s3⟩⟩⟩⟩⟩ := h
  exact ⟨Ar1, cr1, Ar3, cr3, rfl, ⟨p1, q1, s1⟩, ⟨p3, q3, s3⟩⟩
theorem T_api_Point.relE {Z : Nat → Prop} {w : World} {vs : List _root_.Go.Value} {x : T_api_Point} (h : T_api_Point.rep.rel Z w vs x) : ∃ (Ar1 : Option Addr) (cr1 : Nat) (Ar3 : Option Addr) (cr3 : Nat) (Ar5 : Option Addr) (cr5 : Nat), vs = [Str (x.Name), .slice Ar1 (x.Attrs).length cr1, iv x.Kind, iv x.Temp, .bool (x.Mono), iv x.Start, iv x.Time, iv x.Int_, u64v x.Re, u64v x.Im, iv x.Hist.Scale, u64v x.Hist.Zero, iv x.Hist.Pos.Offset, .slice Ar3 (x.Hist.Pos.Counts).length cr3, iv x.Hist.Neg.Offset, .slice Ar5 (x.Hist.Neg.Counts).length cr5, iv x.Flags] ∧ (slR Ar1 cr1 T_api_Pair.rep x.Attrs).H Z w ∧ (slR Ar3 cr3 w64R x.Hist.Pos.Counts).H Z w ∧ (slR Ar5 cr5 w64R x.Hist.Neg.Counts).H Z w := by
  obtain ⟨_, _, rfl, ⟨rfl, _⟩, ⟨_, _, rfl, ⟨Ar1, cr1, rfl, p1, q1, s1⟩, ⟨_, _, rfl, ⟨rfl, _⟩, ⟨_, _, rfl, ⟨rfl, _⟩, ⟨_, _, rfl, ⟨rfl, _⟩, ⟨_, _, rfl, ⟨rfl, _⟩, ⟨_, _, rfl, ⟨rfl, _⟩, ⟨_, _, rfl, ⟨rfl, _⟩, ⟨_, _, rfl, ⟨rfl, _⟩, ⟨_, _, rfl, ⟨rfl, _⟩, ⟨_, _, rfl, ⟨_, _, rfl, ⟨rfl, _⟩, ⟨_, _, rfl, ⟨rfl, _⟩, ⟨_, _, rfl, ⟨_, _, rfl, ⟨rfl, _⟩, ⟨Ar3, cr3, rfl, p3, q3, s3⟩⟩, ⟨_, _, rfl, ⟨rfl, _⟩, ⟨Ar5, cr5, rfl, p5, q5, s5⟩⟩⟩⟩⟩, ⟨rfl, _⟩⟩⟩⟩⟩⟩⟩⟩⟩⟩⟩⟩ := h
  exact ⟨Ar1, cr1, Ar3, cr3, Ar5, cr5, rfl, ⟨p1, q1, s1⟩, ⟨p3, q3, s3⟩, ⟨p5, q5, s5⟩⟩
theorem T_api_Item.relE {Z : Nat → Prop} {w : World} {vs : List _root_.Go.Value} {x : T_api_Item} (h : T_api_Item.rep.rel Z w vs x) : ∃ (Ar1 : Option Addr) (cr1 : Nat) (Ar3 : Option Addr) (cr3 : Nat) (Ar5 : Option Addr) (cr5 : Nat), vs = [iv x.Ord, Str (x.Point.Name), .slice Ar1 (x.Point.Attrs).length cr1, iv x.Point.Kind, iv x.Point.Temp, .bool (x.Point.Mono), iv x.Point.Start, iv x.Point.Time, iv x.Point.Int_, u64v x.Point.Re, u64v x.Point.Im, iv x.Point.Hist.Scale, u64v x.Point.Hist.Zero, iv x.Point.Hist.Pos.Offset, .slice Ar3 (x.Point.Hist.Pos.Counts).length cr3, iv x.Point.Hist.Neg.Offset, .slice Ar5 (x.Point.Hist.Neg.Counts).length cr5, iv x.Point.Flags] ∧ (slR Ar1 cr1 T_api_Pair.rep x.Point.Attrs).H Z w ∧ (slR Ar3 cr3 w64R x.Point.Hist.Pos.Counts).H Z w ∧ (slR Ar5 cr5 w64R x.Point.Hist.Neg.Counts).H Z w := by
  obtain ⟨_, _, rfl, ⟨rfl, _⟩, ⟨_, _, rfl, ⟨rfl, _⟩, ⟨_, _, rfl, ⟨Ar1, cr1, rfl, p1, q1, s1⟩, ⟨_, _, rfl, ⟨rfl, _⟩, ⟨_, _, rfl, ⟨rfl, _⟩, ⟨_, _, rfl, ⟨rfl, _⟩, ⟨_, _, rfl, ⟨rfl, _⟩, ⟨_, _, rfl, ⟨rfl, _⟩, ⟨_, _, rfl, ⟨rfl, _⟩, ⟨_, _, rfl, ⟨rfl, _⟩, ⟨_, _, rfl, ⟨rfl, _⟩, ⟨_, _, rfl, ⟨_, _, rfl, ⟨rfl, _⟩, ⟨_, _, rfl, ⟨rfl, _⟩, ⟨_, _, rfl, ⟨_, _, rfl, ⟨rfl, _⟩, ⟨Ar3, cr3, rfl, p3, q3, s3⟩⟩, ⟨_, _, rfl, ⟨rfl, _⟩, ⟨Ar5, cr5, rfl, p5, q5, s5⟩⟩⟩⟩⟩, ⟨rfl, _⟩⟩⟩⟩⟩⟩⟩⟩⟩⟩⟩⟩⟩ := h
  exact ⟨Ar1, cr1, Ar3, cr3, Ar5, cr5, rfl, ⟨p1, q1, s1⟩, ⟨p3, q3, s3⟩, ⟨p5, q5, s5⟩⟩
theorem el3 : ElOk Tryz.prog 3 1 8 := elOk_of (by kernel_rfl) (by decide)
theorem el9 : ElOk Tryz.prog 9 1 16 := elOk_of (by kernel_rfl) (by decide)
theorem el50 : ElOk Tryz.prog 50 2 16 := elOk_of (by kernel_rfl) (by decide)
theorem el137 : ElOk Tryz.prog 137 1 8 := elOk_of (by kernel_rfl) (by decide)
theorem el152 : ElOk Tryz.prog 152 17 192 := elOk_of (by kernel_rfl) (by decide)
theorem el154 : ElOk Tryz.prog 154 18 200 := elOk_of (by kernel_rfl) (by decide)
theorem el228 : ElOk Tryz.prog 228 2 32 := elOk_of (by kernel_rfl) (by decide)
set_option maxRecDepth 20000 in
theorem clone_32 {Z0 : Nat → Prop} (w : World) (A : Option Addr) (c : Nat) (l : List UInt8) {r : List UInt8} (h : (slR A c byteR l).H Z0 w) (hM : appL [] l = some r) :
    Calls Tryz.prog 32 #[.slice A l.length c] w fun x w' => ∃ A' c', x = .returned (.slice A' r.length c') ∧ Hp Z0 No w w' [ownR 5 A' c' byteR r] := by
  have hm0 := Hp.nil Z0 No w
  have hm1 := hm0.know (slR A c byteR l) (fun _ h => h) (hm0.in0 Calm.nil h)
  refine Rn.enter Tryz.func32 rfl rfl (Nat.le_of_ble_eq_true rfl) ?_
  refine Rn.seq (Rn.reg (Rn.v rfl rfl rfl rfl (V.as rfl) (Rn.regEnd (Rn.seq (Rn.seq (Rn.reg (Rn.v rfl rfl rfl rfl (V.mv rfl) (Rn.v rfl rfl rfl rfl (V.eqlV Tryz.underlying51 rfl rfl) (Rn.regEnd ?_)))))))))
  cases A with
  | none =>
    obtain rfl := clone_get h
    obtain ⟨_, rfl⟩ := appE hM
    refine Rn.condT rfl (Rn.seq (Rn.reg (Rn.v rfl rfl rfl rfl (V.as rfl) (Rn.regEnd ?_))))
    refine Rn.retG1 Tryz.func32 rfl (rvT rfl) ?_
    exact ⟨none, 0, rfl, (hm0.addNil 5 byteR)⟩
  | some a =>
    refine Rn.condF rfl (Rn.skip (Rn.seq (Rn.reg ?_)))
    refine Rn.bslS (ps := []) (us := []) rfl rfl rfl Tryz.underlying51 el5 rfl rfl rfl rfl (by simp) (by decide) ?_
    intro b2 w2 hb2 m2 e2
    have hm2 := hm1.addLit (rep := byteR) (xs := ([] : List UInt8)) (vss := []) hb2 e2 m2 rfl rfl rfl rels0
    refine Rn.v rfl rfl rfl rfl (V.mv rfl) (Rn.appH hm2 1 rfl hM rfl rfl rfl Tryz.underlying51 el5 rfl rfl rfl rfl (hm2.src 0 rfl) ?_)
    intro A3 c3 w3 hm3
    refine Rn.v rfl rfl rfl rfl (V.as rfl) (Rn.regEnd ?_)
    refine Rn.retG1 Tryz.func32 rfl (rvT rfl) ?_
    exact ⟨A3, c3, rfl, hm3.pick [1] rfl (by decide)⟩

set_option maxRecDepth 20000 in
theorem clone_52 {Z0 : Nat → Prop} (w : World) (A : Option Addr) (c : Nat) (l : List T_api_Span) {r : List T_api_Span} (h : (slR A c T_api_Span.rep l).H Z0 w) (hM : appL [] l = some r) :
    Calls Tryz.prog 52 #[.slice A l.length c] w fun x w' => ∃ A' c', x = .returned (.slice A' r.length c') ∧ Hp Z0 No w w' [ownR 50 A' c' T_api_Span.rep r] := by
  have hm0 := Hp.nil Z0 No w
  have hm1 := hm0.know (slR A c T_api_Span.rep l) (fun _ h => h) (hm0.in0 Calm.nil h)
  refine Rn.enter Tryz.func52 rfl rfl (Nat.le_of_ble_eq_true rfl) ?_
  refine Rn.seq (Rn.reg (Rn.v rfl rfl rfl rfl (V.as rfl) (Rn.regEnd (Rn.seq (Rn.seq (Rn.reg (Rn.v rfl rfl rfl rfl (V.mv rfl) (Rn.v rfl rfl rfl rfl (V.eqlV Tryz.underlying41 rfl rfl) (Rn.regEnd ?_)))))))))
  cases A with
  | none =>
    obtain rfl := clone_get h
    obtain ⟨_, rfl⟩ := appE hM
    refine Rn.condT rfl (Rn.seq (Rn.reg (Rn.v rfl rfl rfl rfl (V.as rfl) (Rn.regEnd ?_))))
    refine Rn.retG1 Tryz.func52 rfl (rvT rfl) ?_
    exact ⟨none, 0, rfl, (hm0.addNil 50 T_api_Span.rep)⟩
  | some a =>
    refine Rn.condF rfl (Rn.skip (Rn.seq (Rn.reg ?_)))
    refine Rn.bslS (ps := []) (us := []) rfl rfl rfl Tryz.underlying41 el50 rfl rfl rfl rfl (by simp) (by decide) ?_
    intro b2 w2 hb2 m2 e2
    have hm2 := hm1.addLit (rep := T_api_Span.rep) (xs := ([] : List T_api_Span)) (vss := []) hb2 e2 m2 rfl rfl rfl rels0
    refine Rn.v rfl rfl rfl rfl (V.mv rfl) (Rn.appH hm2 1 rfl hM rfl rfl rfl Tryz.underlying41 el50 rfl rfl rfl rfl (hm2.src 0 rfl) ?_)
    intro A3 c3 w3 hm3
    refine Rn.v rfl rfl rfl rfl (V.as rfl) (Rn.regEnd ?_)
    refine Rn.retG1 Tryz.func52 rfl (rvT rfl) ?_
    exact ⟨A3, c3, rfl, hm3.pick [1] rfl (by decide)⟩

set_option maxRecDepth 20000 in
theorem clone_206 {Z0 : Nat → Prop} (w : World) (A : Option Addr) (c : Nat) (l : List T_api_Pair) {r : List T_api_Pair} (h : (slR A c T_api_Pair.rep l).H Z0 w) (hM : appL [] l = some r) :
    Calls Tryz.prog 206 #[.slice A l.length c] w fun x w' => ∃ A' c', x = .returned (.slice A' r.length c') ∧ Hp Z0 No w w' [ownR 228 A' c' T_api_Pair.rep r] := by
  have hm0 := Hp.nil Z0 No w
  have hm1 := hm0.know (slR A c T_api_Pair.rep l) (fun _ h => h) (hm0.in0 Calm.nil h)
  refine Rn.enter Tryz.func206 rfl rfl (Nat.le_of_ble_eq_true rfl) ?_
  refine Rn.seq (Rn.reg (Rn.v rfl rfl rfl rfl (V.as rfl) (Rn.regEnd (Rn.seq (Rn.seq (Rn.reg (Rn.v rfl rfl rfl rfl (V.mv rfl) (Rn.v rfl rfl rfl rfl (V.eqlV Tryz.underlying145 rfl rfl) (Rn.regEnd ?_)))))))))
  cases A with
  | none =>
    obtain rfl := clone_get h
    obtain ⟨_, rfl⟩ := appE hM
    refine Rn.condT rfl (Rn.seq (Rn.reg (Rn.v rfl rfl rfl rfl (V.as rfl) (Rn.regEnd ?_))))
    refine Rn.retG1 Tryz.func206 rfl (rvT rfl) ?_
    exact ⟨none, 0, rfl, (hm0.addNil 228 T_api_Pair.rep)⟩
  | some a =>
    refine Rn.condF rfl (Rn.skip (Rn.seq (Rn.reg ?_)))
    refine Rn.bslS (ps := []) (us := []) rfl rfl rfl Tryz.underlying145 el228 rfl rfl rfl rfl (by simp) (by decide) ?_
    intro b2 w2 hb2 m2 e2
    have hm2 := hm1.addLit (rep := T_api_Pair.rep) (xs := ([] : List T_api_Pair)) (vss := []) hb2 e2 m2 rfl rfl rfl rels0
    refine Rn.v rfl rfl rfl rfl (V.mv rfl) (Rn.appH hm2 1 rfl hM rfl rfl rfl Tryz.underlying145 el228 rfl rfl rfl rfl (hm2.src 0 rfl) ?_)
    intro A3 c3 w3 hm3
    refine Rn.v rfl rfl rfl rfl (V.as rfl) (Rn.regEnd ?_)
    refine Rn.retG1 Tryz.func206 rfl (rvT rfl) ?_
    exact ⟨A3, c3, rfl, hm3.pick [1] rfl (by decide)⟩

set_option maxRecDepth 20000 in
theorem clone_245 {Z0 : Nat → Prop} (w : World) (A : Option Addr) (c : Nat) (l : List UInt64) {r : List UInt64} (h : (slR A c w64R l).H Z0 w) (hM : appL [] l = some r) :
    Calls Tryz.prog 245 #[.slice A l.length c] w fun x w' => ∃ A' c', x = .returned (.slice A' r.length c') ∧ Hp Z0 No w w' [ownR 137 A' c' w64R r] := by
  have hm0 := Hp.nil Z0 No w
  have hm1 := hm0.know (slR A c w64R l) (fun _ h => h) (hm0.in0 Calm.nil h)
  refine Rn.enter Tryz.func245 rfl rfl (Nat.le_of_ble_eq_true rfl) ?_
  refine Rn.seq (Rn.reg (Rn.v rfl rfl rfl rfl (V.as rfl) (Rn.regEnd (Rn.seq (Rn.seq (Rn.reg (Rn.v rfl rfl rfl rfl (V.mv rfl) (Rn.v rfl rfl rfl rfl (V.eqlV Tryz.underlying146 rfl rfl) (Rn.regEnd ?_)))))))))
  cases A with
  | none =>
    obtain rfl := clone_get h
    obtain ⟨_, rfl⟩ := appE hM
    refine Rn.condT rfl (Rn.seq (Rn.reg (Rn.v rfl rfl rfl rfl (V.as rfl) (Rn.regEnd ?_))))
    refine Rn.retG1 Tryz.func245 rfl (rvT rfl) ?_
    exact ⟨none, 0, rfl, (hm0.addNil 137 w64R)⟩
  | some a =>
    refine Rn.condF rfl (Rn.skip (Rn.seq (Rn.reg ?_)))
    refine Rn.bslS (ps := []) (us := []) rfl rfl rfl Tryz.underlying146 el137 rfl rfl rfl rfl (by simp) (by decide) ?_
    intro b2 w2 hb2 m2 e2
    have hm2 := hm1.addLit (rep := w64R) (xs := ([] : List UInt64)) (vss := []) hb2 e2 m2 rfl rfl rfl rels0
    refine Rn.v rfl rfl rfl rfl (V.mv rfl) (Rn.appH hm2 1 rfl hM rfl rfl rfl Tryz.underlying146 el137 rfl rfl rfl rfl (hm2.src 0 rfl) ?_)
    intro A3 c3 w3 hm3
    refine Rn.v rfl rfl rfl rfl (V.as rfl) (Rn.regEnd ?_)
    refine Rn.retG1 Tryz.func245 rfl (rvT rfl) ?_
    exact ⟨A3, c3, rfl, hm3.pick [1] rfl (by decide)⟩

set_option maxRecDepth 20000 in
theorem bld_copy (b : Nat) (p : Option Addr) (v : Value) (w : World) (hp : p = none ∨ p = some ⟨b, 0, none⟩) (hB : Blk w b 114 [.pointer p, v]) :
    Calls Tryz.prog 94 #[.pointer (some ⟨b, 0, none⟩)] w fun x w' => x = .returned (.tuple #[]) ∧ Blk w' b 114 [.pointer (some ⟨b, 0, none⟩), v] ∧ Fr (fun x => x = b) w w' := by
  have hsz : (Tryz.prog.info? 114).map (·.size) = some 2 := by kernel_rfl
  obtain ⟨j, hj, hjs0⟩ := Option.map_eq_some_iff.1 hsz
  have hjs : j.size ≠ 0 := by rw [hjs0]; decide
  refine Rn.enter Tryz.func94 rfl rfl (Nat.le_of_ble_eq_true rfl) ?_
  refine Rn.seq (Rn.reg (Rn.v rfl rfl rfl rfl (V.mv rfl) (Rn.v rfl rfl rfl rfl (V.nil rfl) (Rn.v rfl rfl rfl rfl (V.fa Tryz.underlying114 rfl Tryz.sizeOf112 rfl rfl) (Rn.v rfl rfl rfl rfl (V.ldB Tryz.isAgg112 rfl hB rfl) (Rn.v rfl rfl rfl rfl (V.eqlP Tryz.underlying112 rfl rfl) (Rn.regEnd ?_)))))))
  rcases hp with rfl | rfl
  refine Rn.condT rfl (Rn.reg (Rn.v rfl rfl rfl rfl (V.mv rfl) (Rn.v rfl rfl rfl rfl (V.mv rfl) (Rn.v rfl rfl rfl rfl (V.toUns Tryz.underlying112 Tryz.underlying198 hj hjs rfl hB (by simp)) (Rn.v rfl rfl rfl rfl (V.noEsc Tryz.func116 (by kernel_rfl) (by kernel_rfl) (by kernel_rfl) (by kernel_rfl) rfl) (Rn.v rfl rfl rfl rfl (V.fromUns Tryz.underlying198 Tryz.underlying112 hj rfl hB (by kernel_rfl)) (Rn.v rfl rfl rfl rfl (V.nil rfl) (Rn.v rfl rfl rfl rfl (V.fa Tryz.underlying114 rfl Tryz.sizeOf112 rfl rfl) (Rn.st rfl rfl Tryz.sizeOf112 rfl rfl rfl rfl (by first | exact ones rfl | (simp [Value.oneCell']; done)) hB (by first | exact Nat.le_of_ble_eq_true rfl | (simp; done)) ?_)))))))))
  intro w1 m1 x1
  have e1 : Fr (fun x => x = b) w w1 := ((Fr.refl _ _)).trans' x1 (fun x hx => by first | exact .inl hx | exact .inr (by subst hx; omega))
  refine Rn.regEnd ?_
  refine Rn.end0 Tryz.func94 rfl ?_
  exact ⟨rfl, m1, x1⟩
  refine Rn.condF rfl (Rn.seq (Rn.reg (Rn.v rfl rfl rfl rfl (V.mv rfl) (Rn.v rfl rfl rfl rfl (V.nil rfl) (Rn.v rfl rfl rfl rfl (V.fa Tryz.underlying114 rfl Tryz.sizeOf112 rfl rfl) (Rn.v rfl rfl rfl rfl (V.ldB Tryz.isAgg112 rfl hB rfl) (Rn.v rfl rfl rfl rfl (V.mv rfl) (Rn.v rfl rfl rfl rfl (V.neqSame Tryz.underlying112 hj rfl rfl) (Rn.regEnd (Rn.condF rfl (Rn.skip ?_)))))))))))
  refine Rn.end0 Tryz.func94 rfl ?_
  exact ⟨rfl, hB, Fr.refl _ _⟩

set_option maxRecDepth 20000 in
theorem bld_ws {Z0 : Nat → Prop} (w : World) (b : Nat) (A : Option Addr) (c : Nat) (l s : List UInt8) {z : List UInt8} (hL : Lent Z0 w [bldR 114 5 b A c l]) (hz : appL l s = some z) :
    Calls Tryz.prog 67 #[.pointer (some ⟨b, 0, none⟩), Str s] w fun x w' => ∃ A' c', x = .returned (.tuple #[.int .i64 s.length, .nilIface]) ∧ Hp Z0 (LS [bldR 114 5 b A c l]) w w' [bldR 114 5 b A' c' z] := by
  obtain ⟨hle, rfl⟩ := appE hz
  have hm0 := hL.start
  obtain ⟨p, hp, hB, hO, hne, hnil⟩ := hm0.get 0 rfl
  refine Rn.enter Tryz.func67 rfl rfl (Nat.le_of_ble_eq_true rfl) ?_
  refine Rn.seq (Rn.reg (Rn.v rfl rfl rfl rfl (V.as rfl) (Rn.v rfl rfl rfl rfl (V.as rfl) (Rn.regEnd (Rn.seq (Rn.reg (Rn.v rfl rfl rfl rfl (V.mv rfl) (Rn.cl ck94 rfl rfl rfl rfl (bld_copy b p _ _ hp hB) ?_))))))))
  rintro _ w1 ⟨rfl, mB1, x1⟩
  have e1 : Fr (fun x => x = b ∨ ob A x) w w1 := ((Fr.refl _ _)).trans' x1 (fun x hx => by first | exact .inl (.inl hx) | exact .inl (.inr hx))
  refine ⟨_, rfl, ?_⟩
  refine Rn.regEnd (Rn.seq (Rn.reg (Rn.v rfl rfl rfl rfl (V.mv rfl) (Rn.v rfl rfl rfl rfl (V.mv rfl) (Rn.v rfl rfl rfl rfl (V.nil rfl) (Rn.v rfl rfl rfl rfl (V.fa Tryz.underlying114 rfl Tryz.sizeOf51 rfl rfl) (Rn.v rfl rfl rfl rfl (V.ldB Tryz.isAgg51 rfl mB1 rfl) (Rn.v rfl rfl rfl rfl (V.mv rfl) ?_))))))))
  have hO2 := hO.fr x1 (fun _ h => h.elim) (fun x hx hh => hne (hh ▸ hx))
  refine Rn.appS rfl rfl rfl Tryz.underlying51 Tryz.underlying9 el5 rfl rfl hO2 hle ?_
  intro A2 c2 w2 o2 x2 q2 n2
  have e2 : Fr (fun x => x = b ∨ ob A x) w w2 := (e1).trans' x2 (fun x hx => by first | exact .inl (.inl hx) | exact .inl (.inr hx))
  refine Rn.v rfl rfl rfl rfl (V.nil rfl) (Rn.v rfl rfl rfl rfl (V.fa Tryz.underlying114 rfl Tryz.sizeOf51 rfl rfl) (Rn.st rfl rfl Tryz.sizeOf51 rfl rfl rfl rfl (by first | exact ones rfl | (simp [Value.oneCell']; done)) (mB1.fr x2 hne) (by first | exact Nat.le_of_ble_eq_true rfl | (simp; done)) ?_))
  intro w3 m3 x3
  have e3 : Fr (fun x => x = b ∨ ob A x) w w3 := (e2).trans' x3 (fun x hx => by first | exact .inl (.inl hx) | exact .inl (.inr hx))
  refine Rn.regEnd (Rn.seq (Rn.reg (Rn.v rfl rfl rfl rfl (V.mv rfl) (Rn.v rfl rfl rfl rfl (V.lenS Tryz.underlying9 rfl) (Rn.v rfl rfl rfl rfl (V.as rfl) (Rn.v rfl rfl rfl rfl (V.as rfl) (Rn.regEnd ?_)))))))
  refine Rn.ret2 Tryz.func67 rfl rfl rfl ?_
  have hsz := x1.size
  have hlt := mB1.lt
  have hnb : ¬ ob A2 b := fun hh => by rcases q2 b hh with h | h; exact hne h; omega
  exact ⟨A2, c2, rfl, hm0.upd 0 (bldR 114 5 b A2 c2 (l ++ s)) rfl (((x1.mono fun y hy => .inl hy).trans (x2.mono fun y hy => .inr hy)).trans (x3.mono fun y hy => .inl hy)) (fun x hx => by rcases hx with hx | hx; exact .inl (.inl hx); rcases q2 x hx with h | h; exact .inl (.inr h); exact .inr (by omega)) (fun _ _ _ => ⟨_, .inr rfl, m3, o2.fr x3 (fun _ h => h.elim) (fun x hx hh => hnb (hh ▸ hx)), hnb, fun h => n2 h (hnil (List.append_eq_nil_iff.1 h).1)⟩)⟩

set_option maxRecDepth 20000 in
theorem bld_str {Z0 : Nat → Prop} (w : World) (b : Nat) (A : Option Addr) (c : Nat) (l : List UInt8) (hL : Lent Z0 w [bldR 114 5 b A c l]) :
    Calls Tryz.prog 69 #[.pointer (some ⟨b, 0, none⟩)] w fun x w' => x = .returned (Str l) ∧ Hp Z0 (LS [bldR 114 5 b A c l]) w w' [] := by
  have hm0 := hL.start.ext (Ext.drew w)
  obtain ⟨p, hp, hB, hO, hne, hnil⟩ := hm0.get 0 rfl
  refine Rn.enter Tryz.func69 rfl rfl (Nat.le_of_ble_eq_true rfl) ?_
  refine Rn.seq (Rn.reg (Rn.v rfl rfl rfl rfl (V.as rfl) (Rn.regEnd (Rn.seq ?_))))
  refine Rn.draw (fun w' => Blk w' b 114 [.pointer p, .slice A l.length c]) rfl hB ?_
  refine RH.take 0 (by kernel_rfl) rfl rfl rfl rfl (fun w' hDr => V.mv rfl) ?_
  refine RH.take 1 (by kernel_rfl) rfl rfl rfl rfl (fun w' hDr => V.nil rfl) ?_
  refine RH.take 2 (by kernel_rfl) rfl rfl rfl rfl (fun w' hDr => V.fa Tryz.underlying114 rfl Tryz.sizeOf51 rfl rfl) ?_
  refine RH.take 3 (by kernel_rfl) rfl rfl rfl rfl (fun w' hDr => V.ldB Tryz.isAgg51 rfl hDr rfl) ?_
  refine RH.take 4 (by kernel_rfl) rfl rfl rfl rfl (fun w' hDr => uData rfl hO hnil w') ?_
  refine RH.take 5 (by kernel_rfl) rfl rfl rfl rfl (fun w' hDr => V.mv rfl) ?_
  refine RH.take 6 (by kernel_rfl) rfl rfl rfl rfl (fun w' hDr => V.nil rfl) ?_
  refine RH.take 7 (by kernel_rfl) rfl rfl rfl rfl (fun w' hDr => V.fa Tryz.underlying114 rfl Tryz.sizeOf51 rfl rfl) ?_
  refine RH.take 8 (by kernel_rfl) rfl rfl rfl rfl (fun w' hDr => V.ldB Tryz.isAgg51 rfl hDr rfl) ?_
  refine RH.take 9 (by kernel_rfl) rfl rfl rfl rfl (fun w' hDr => V.lenV Tryz.underlying51 rfl) ?_
  obtain ⟨w2, hr, hF⟩ := uStr_run (P := Tryz.prog) (ty := 9) (pt := 167) (it := 3) Tryz.underlying167 (by kernel_rfl : Tryz.prog.cellsOf 5 = 1) hO hnil
  refine RH.one 10 (by kernel_rfl) rfl rfl rfl rfl (V.uStr hr rfl rfl) (hB.fr hF hne) ?_
  refine RH.take 11 (by kernel_rfl) rfl rfl rfl rfl (fun w' hDr => V.as rfl) ?_
  refine RH.doneP (by kernel_rfl) ?_
  refine Rn.retG1 Tryz.func69 rfl (rvT rfl) ?_
  exact ⟨rfl, hm0.end1 (hF.mono fun y hy => .inr hy)⟩

theorem eq312 (a b : T_xor_window) (w : World) : (Op.equalIn 10000 312 (.agg [iv a.ahead, iv a.size].toArray) (.agg [iv b.ahead, iv b.size].toArray)).run Tryz.prog w = .ok (decide (a = b)) w := by
  refine eqF_top (p := a = b) (by kernel_rfl) Tryz.underlying312 Tryz.stoodInHeld312 (eqF_cons rfl Tryz.isAgg3 rfl rfl (eqI w a.ahead b.ahead Tryz.underlying3) (eqF_cons rfl Tryz.isAgg3 rfl rfl (eqI w a.size b.size Tryz.underlying3) eqF_nil)) ?_
  cases a; cases b; simp only [T_xor_window.mk.injEq, and_true]
theorem eq328 (a b : T_histbits_shape) (w : World) : (Op.equalIn 10000 328 (.agg [iv a.scale, iv a.posAt, iv a.posSize, iv a.negAt, iv a.negSize].toArray) (.agg [iv b.scale, iv b.posAt, iv b.posSize, iv b.negAt, iv b.negSize].toArray)).run Tryz.prog w = .ok (decide (a = b)) w := by
  refine eqF_top (p := a = b) (by kernel_rfl) Tryz.underlying328 Tryz.stoodInHeld328 (eqF_cons rfl Tryz.isAgg3 rfl rfl (eqI w a.scale b.scale Tryz.underlying3) (eqF_cons rfl Tryz.isAgg3 rfl rfl (eqI w a.posAt b.posAt Tryz.underlying3) (eqF_cons rfl Tryz.isAgg3 rfl rfl (eqI w a.posSize b.posSize Tryz.underlying3) (eqF_cons rfl Tryz.isAgg3 rfl rfl (eqI w a.negAt b.negAt Tryz.underlying3) (eqF_cons rfl Tryz.isAgg3 rfl rfl (eqI w a.negSize b.negSize Tryz.underlying3) eqF_nil))))) ?_
  cases a; cases b; simp only [T_histbits_shape.mk.injEq, and_true]
theorem m_disk_New_sim {Z0 : Nat → Prop} {w : World} {A0 : Option Addr} {c0 : Nat} {x0 : (List T_api_File)} {x1 : Int} {r : (Option PD)} (hM : m_disk_New x0 x1 = some r) (f0 : (slR A0 c0 T_api_File.rep x0).H Z0 w) :
    Calls Tryz.prog 11 #[.slice A0 (x0).length c0, iv x1] w fun x w' => ∃ F_0 b_0, x = .returned (.pointer (optP b_0 r)) ∧ Hp Z0 No w w' [optR r (fun z => diskO 73 78 5 F_0 b_0 z)] := by
  unfold m_disk_New at hM
  split at hM
  · rename_i hg
    obtain rfl := someE hM
    refine (dnew_spec (D := All) A0 c0 _ (x0.map fun f : T_api_File => (f.Name, f.Data)) x1 w (by simp; omega) (by simp) (sl_map (g := fun f : T_api_File => (f.Name, f.Data)) (slR_all f0).2.2)).mono ?_
    rintro x w' ⟨h, hx⟩
    rcases h with ⟨rfl, hn⟩ | ⟨s, b, F, hn, rfl, hd, hF⟩
    · rw [hn]; exact ⟨No, 0, rfl, (Hp.nil Z0 No w).ext hx |>.addNone _⟩
    · rw [hn]; exact ⟨F, b, rfl, ((Hp.nil Z0 No w).add (diskO 73 78 5 F b s) hx hF fun _ _ => hd).toSome (R := fun z => diskO 73 78 5 F b z) 0 rfl⟩
  · cases hM

theorem m_store_Name_sim {Z0 : Nat → Prop} {w : World} {x0 : Int} {r : (List UInt8)} (hM : m_store_Name x0 = some r)  :
    Calls Tryz.prog 8 #[iv x0] w fun x w' => x = .returned (Str (r)) ∧ Hp Z0 No w w' [] := by
 have hm0 := Hp.nil Z0 No w
 have hc0 := Calm.nil
 refine Rn.enter Tryz.func8 rfl rfl (Nat.le_of_ble_eq_true rfl) ?_
 refine gg 10 rfl ?_
 refine Rn.cutR [] [(0, iv x0), (10, .bool (decide ((x0 < 0) ∨ (x0 > 4503599627370496))))] (fun hk1 => ?_) ?_
 ·refine Rn.partD (t := 7) rfl (fun h2 => ?_) (fun h2 => ?_)
  ·refine gg 3 rfl ?_
   refine hk1 _ ?_
   exact Sub.cons rfl (Sub.cons (lkB rfl) (Sub.nil _))
  ·refine gg 3 rfl ?_
   refine hk1 _ ?_
   exact Sub.cons rfl (Sub.cons (lkB rfl) (Sub.nil _))
 refine gg 1 rfl ?_
 refine askD hM (Rn.condD rfl) (fun h3 hM => ?_) (fun h3 hM => ?_)
 ·refine gg 4 rfl ?_
  refine Rn.retG1 Tryz.func8 rfl (rvT rfl) ?_
  obtain rfl := someE hM
  exact ⟨rfl, hm0.pick [] rfl (by decide)⟩
 ·refine gg 3 rfl ?_
  obtain ⟨z4, e4, hM⟩ := bindE hM
  refine Rn.cl ck30 rfl rfl rfl rfl (Tryz.repeats _ e4) ?_
  rintro _ w4 ⟨rfl, hq4⟩
  refine ⟨_, rfl, ?_⟩
  have hm5 := hm0.ext hq4
  obtain ⟨z6, e6, hM⟩ := bindE hM
  refine Rn.q rfl (V.catZ rfl rfl e6) ?_
  obtain ⟨z7, e7, hM⟩ := bindE hM
  refine Rn.s2bZ hm5 e7 rfl rfl rfl Tryz.underlying9 Tryz.underlying51 Tryz.underlying5 rfl ?_
  intro b7 c7 w7 hm7
  refine gg 6 rfl (Rn.q rfl (V.lenV Tryz.underlying51 rfl) (gg 3 rfl ?_))
  obtain ⟨j1, hj1, hM⟩ := jnE hM
  refine Rn.joinG (r := r) (G := (List UInt8)) (fun g => [(3, .slice (some ⟨b7, 0, none⟩) (z7).length c7)]) (fun g w' => Hp Z0 No w w' [zbR 5 b7 g] ∧ g.length = (z7).length) (fun g => j1 g) ?_ ?_
  ·subst hj1
   clear hM
   rintro y9 w10 ⟨hm10, hl9⟩ hM
   replace hl9 : y9.length = (z7).length := hl9
   try dsimp only at hM
   refine gg 3 rfl ?_
   refine Rn.say (t := 30) (.slice (some ⟨b7, 0, none⟩) (y9).length c7) rfl (congrArg (fun (n0 : Nat) => Value.slice (some ⟨b7, 0, none⟩) n0 c7) (show (z7).length = (y9).length from (hl9).symm.trans (rfl))) ?_
   refine Rn.q rfl (V.b2s Tryz.underlying51 Tryz.underlying9 Tryz.underlying5 rfl rfl (zb_sl (hm10.get 0 rfl))) (gg 2 rfl ?_)
   refine Rn.retG1 Tryz.func8 rfl (rvT rfl) ?_
   obtain rfl := someE hM
   exact ⟨rfl, hm10.pick [] rfl (by decide)⟩
  intro hk1
  clear hj1
  refine gg 1 rfl ?_
  refine Rn.loopF (G := (List UInt8) × Int × Int) (fun g => [(0, iv (g.2.1)), (3, .slice (some ⟨b7, 0, none⟩) (z7).length c7), (4, iv (g.2.2))]) (fun g w' => Hp Z0 No w w' [zbR 5 b7 (g.1)] ∧ (g.1).length = (z7).length) (fun n g => m_store_Name_L1 j1 n g.1 g.2.1 g.2.2) fuel (z7, x0, (W64 ((z7.length : Int) - 1))) (sb ⟨rfl, rfl, rfl, trivial⟩) (⟨hm7.pick [0] rfl (by decide), rfl⟩) hM (fun _ => rfl) ?_
  clear hM
  rintro m14 ⟨y11, y12, y13⟩ w14 ⟨hm14, hl11⟩ hM hn14
  replace hl11 : y11.length = (z7).length := hl11
  replace hM : m_store_Name_L1 j1 (m14 + 1) y11 y12 y13 = some r := hM
  rw [m_store_Name_L1] at hM
  refine gg 6 rfl ?_
  refine askD hM (Rn.condD rfl) (fun h15 hM => ?_) (fun h15 hM => ?_)
  ·refine gg 8 rfl ?_
   obtain ⟨z16, e16, hM⟩ := bindE hM
   refine Rn.q rfl (V.remZ rfl rfl e16) (gg 1 rfl (Rn.q rfl (V.cv8 Tryz.underlying3 Tryz.underlying5 rfl) ?_))
   obtain ⟨z17, e17, hM⟩ := bindE hM
   obtain ⟨kk17, ke17, kz17, kl17⟩ := idxE e17
   obtain ⟨vs17, hR17, hrel17⟩ := hm14.zbAt 0 rfl kz17
   obtain ⟨rfl, _⟩ := hrel17
   refine Rn.q rfl (V.ixE kk17 Tryz.underlying51 Tryz.sizeOf5 rfl rfl ke17 (Nat.lt_of_lt_of_eq kl17 hl11)) (Rn.stZ (z := toU8 (W64 (48 + z16))) hm14 0 rfl ke17 kl17 rfl rfl Tryz.sizeOf5 rfl rfl ?_)
   intro w18 hm18
   refine gg 3 rfl ?_
   obtain ⟨z19, e19, hM⟩ := bindE hM
   refine Rn.q rfl (V.quoZ rfl rfl e19) (gg 8 rfl ?_)
   exact hn14 ((setI y11 y13 (toU8 (W64 (48 + z16)))), z19, (W64 (y13 - 1))) _ _ (sb ⟨rfl, rfl, rfl, trivial⟩) (⟨hm18.pick [0] rfl (by decide), ((length_setI _ _ _).trans hl11)⟩) hM
  ·refine gg 1 rfl ?_
   exact hk1 y11 _ _ (sb ⟨rfl, trivial⟩) (⟨hm14.pick [0] rfl (by decide), hl11⟩) hM

theorem m_disk_Disk_Down_sim {Z0 : Nat → Prop} {w : World} {F0 : Nat → Prop} {b0 : Nat} {x0 : PD} {r : Bool} (hM : m_disk_Disk_Down x0 = some r) (f0 : (fzR (diskO 73 78 5 F0 b0 x0)).H Z0 w) :
    Calls Tryz.prog 38 #[pt b0 0] w fun x w' => x = .returned (.bool (r)) ∧ Hp Z0 No w w' [] := by
  obtain rfl := someE hM
  refine (down_spec w f0.1).mono ?_
  rintro x w' ⟨rfl, rfl⟩
  exact ⟨rfl, Hp.nil Z0 No w⟩

theorem m_disk_Disk_Names_sim {Z0 : Nat → Prop} {w : World} {F0 : Nat → Prop} {b0 : Nat} {x0 : PD} {r : (List (List UInt8))} (hM : m_disk_Disk_Names x0 = some r) (f0 : (fzR (diskO 73 78 5 F0 b0 x0)).H Z0 w) :
    Calls Tryz.prog 39 #[pt b0 0] w fun x w' => ∃ A_0_0 c_0_0, x = .returned (.slice A_0_0 (r).length c_0_0) ∧ Hp Z0 No w w' [ownR 9 A_0_0 c_0_0 textR r] := by
  unfold m_disk_Disk_Names at hM
  split at hM
  · rename_i hg
    obtain rfl := someE hM
    refine (names_spec w hg f0.1).mono ?_
    rintro x w' ⟨A, c, rfl, ho, hx⟩
    exact ⟨A, c, rfl, (Hp.nil Z0 No w).addOwn hx ho text_flat⟩
  · cases hM

theorem m_crc_Of_sim {Z0 : Nat → Prop} {w : World} {A0 : Option Addr} {c0 : Nat} {x0 : (List UInt8)} {r : UInt32} (hM : m_crc_Of x0 = some r) (f0 : (slR A0 c0 byteR x0).H Z0 w) :
    Calls Tryz.prog 114 #[.slice A0 (x0).length c0] w fun x w' => x = .returned (u32v r) ∧ Hp Z0 No w w' [] := by
  unfold m_crc_Of at hM
  split at hM
  · rename_i hg
    obtain rfl := someE hM
    refine (of_spec A0 c0 x0 w (by omega) (slR_all f0).2.2).mono ?_
    rintro x w' ⟨rfl, hx⟩
    exact ⟨rfl, (Hp.nil Z0 No w).ext hx⟩
  · cases hM

theorem m_crc_More_sim {Z0 : Nat → Prop} {w : World} {x0 : UInt32} {A1 : Option Addr} {c1 : Nat} {x1 : (List UInt8)} {r : UInt32} (hM : m_crc_More x0 x1 = some r) (f0 : (slR A1 c1 byteR x1).H Z0 w) :
    Calls Tryz.prog 113 #[u32v x0, .slice A1 (x1).length c1] w fun x w' => x = .returned (u32v r) ∧ Hp Z0 No w w' [] := by
  unfold m_crc_More at hM
  split at hM
  · rename_i hg
    obtain rfl := someE hM
    refine (more_spec x0 A1 c1 x1 w (by omega) (slR_all f0).2.2).mono ?_
    rintro x w' ⟨rfl, hx⟩
    exact ⟨rfl, (Hp.nil Z0 No w).ext hx⟩
  · cases hM

theorem m_frame_sum_sim {Z0 : Nat → Prop} {w : World} {A0 : Option Addr} {c0 : Nat} {x0 : (List UInt8)} {A1 : Option Addr} {c1 : Nat} {x1 : (List UInt8)} {r : UInt32} (hM : m_frame_sum x0 x1 = some r) (f0 : (slR A0 c0 byteR x0).H Z0 w) (f1 : (slR A1 c1 byteR x1).H Z0 w) :
    Calls Tryz.prog 87 #[.slice A0 (x0).length c0, .slice A1 (x1).length c1] w fun x w' => x = .returned (u32v r) ∧ Hp Z0 No w w' [] := by
 have hm0 := Hp.nil Z0 No w
 have hc0 := Calm.nil
 have hm3 := hm0.know (slR A0 c0 byteR x0) (fun _ h => h) (hm0.in0 hc0 f0)
 replace hc0 := hc0.snoc (r := slR A0 c0 byteR x0) (fun _ h => h)
 have hm4 := hm3.know (slR A1 c1 byteR x1) (fun _ h => h) (hm3.in0 hc0 f1)
 replace hc0 := hc0.snoc (r := slR A1 c1 byteR x1) (fun _ h => h)
 refine Rn.enter Tryz.func87 rfl rfl (Nat.le_of_ble_eq_true rfl) ?_
 refine gg 7 rfl ?_
 obtain ⟨p5, e5, hM⟩ := bindE hM
 refine Rn.cl ck114 rfl rfl rfl rfl (m_crc_Of_sim (Z0 := All) e5 (slR_all (hm4.get 0 rfl)) :) ?_
 rintro _ w5 ⟨rfl, hq5⟩
 refine ⟨_, rfl, ?_⟩
 have hm6 := hm4.call0 hq5
 refine gg 1 rfl ?_
 obtain ⟨p7, e7, hM⟩ := bindE hM
 refine Rn.cl ck113 rfl rfl rfl rfl (m_crc_More_sim (Z0 := All) e7 (slR_all (hm6.get 1 rfl)) :) ?_
 rintro _ w7 ⟨rfl, hq7⟩
 refine ⟨_, rfl, ?_⟩
 have hm8 := hm6.call0 hq7
 refine gg 2 rfl ?_
 refine Rn.retG1 Tryz.func87 rfl (rvT rfl) ?_
 obtain rfl := someE hM
 exact ⟨rfl, hm8.pick [] rfl (by decide)⟩

theorem m_store_tiles_sim {Z0 : Nat → Prop} {w : World} {A0 : Option Addr} {c0 : Nat} {x0 : (List T_api_Span)} {x1 : Int} {x2 : Int} {r : Bool} (hM : m_store_tiles x0 x1 x2 = some r) (f0 : (slR A0 c0 T_api_Span.rep x0).H Z0 w) :
    Calls Tryz.prog 44 #[.slice A0 (x0).length c0, iv x1, iv x2] w fun x w' => x = .returned (.bool (r)) ∧ Hp Z0 No w w' [] := by
 have hm0 := Hp.nil Z0 No w
 have hc0 := Calm.nil
 have hm2 := hm0.know (slR A0 c0 T_api_Span.rep x0) (fun _ h => h) (hm0.in0 hc0 f0)
 replace hc0 := hc0.snoc (r := slR A0 c0 T_api_Span.rep x0) (fun _ h => h)
 refine Rn.enter Tryz.func44 rfl rfl (Nat.le_of_ble_eq_true rfl) ?_
 refine gg 8 rfl (Rn.q rfl (V.lenV Tryz.underlying41 rfl) (gg 2 rfl ?_))
 refine askD hM (Rn.condD rfl) (fun h3 hM => ?_) (fun h3 hM => ?_)
 ·refine gg 7 rfl ?_
  refine Rn.retG1 Tryz.func44 rfl (rvT rfl) ?_
  obtain rfl := someE hM
  exact ⟨rfl, hm2.pick [] rfl (by decide)⟩
 ·cases hM

theorem m_store_Open_sim {Z0 : Nat → Prop} {w : World} {F0 : Nat → Prop} {b0 : Nat} {x0 : PD} {x1 : Int} {x2 : Int} {r : ((Option T_store_Store) × Int × PD)} (hM : m_store_Open x0 x1 x2 = some r) (hL : Lent Z0 w [diskO 73 78 5 F0 b0 x0]) :
    Calls Tryz.prog 16 #[pt b0 0, iv x1, iv x2] w fun x w' => ∃ F_0 b_0 F_p0, x = .returned (.tuple #[.pointer (optP b_0 r.1), iv r.2.1]) ∧ Hp Z0 (LS [diskO 73 78 5 F0 b0 x0]) w w' [optR r.1 (fun z => T_store_Store.obj F_0 b_0 b0 z), diskO 73 78 5 F_p0 b0 r.2.2] := by
 have hm0 := hL.start
 refine Rn.enter Tryz.func16 rfl rfl (Nat.le_of_ble_eq_true rfl) ?_
 refine gg 9 rfl ?_
 obtain ⟨p1, e1, hM⟩ := bindE hM
 refine Rn.cl ck38 rfl rfl rfl rfl (m_disk_Disk_Down_sim (Z0 := All) e1 (fz_all (hm0.get 0 rfl)) :) ?_
 rintro _ w1 ⟨rfl, hq1⟩
 refine ⟨_, rfl, ?_⟩
 have hm2 := hm0.call0 hq1
 refine gg 1 rfl ?_
 refine askS hM (Rn.condS rfl) (fun h3 hM => ?_) (fun h3 hM => ?_)
 ·cases hM
 ·refine gg 7 rfl ?_
  refine Rn.cutR [7, 8, 9, 10] [(0, pt b0 0), (1, iv x1), (2, iv x2), (22, .bool (decide ((x1 < 0) ∨ (x1 > x2))))] (fun hk4 => ?_) ?_
  ·refine Rn.partD (t := 18) rfl (fun h5 => ?_) (fun h5 => ?_)
   ·refine gg 4 rfl ?_
    refine hk4 _ ?_
    exact Sub.cons rfl (Sub.cons rfl (Sub.cons rfl (Sub.cons (lkB rfl) (Sub.nil _))))
   ·refine gg 4 rfl ?_
    refine hk4 _ ?_
    exact Sub.cons rfl (Sub.cons rfl (Sub.cons rfl (Sub.cons (lkB rfl) (Sub.nil _))))
  refine gg 1 rfl ?_
  refine Rn.cutR [] [(0, pt b0 0), (1, iv x1), (2, iv x2), (26, .bool (decide (((x1 < 0) ∨ (x1 > x2)) ∨ (x2 > 4503599627370497))))] (fun hk6 => ?_) ?_
  ·refine Rn.partD (t := 23) rfl (fun h7 => ?_) (fun h7 => ?_)
   ·refine gg 3 rfl ?_
    refine hk6 _ ?_
    exact Sub.cons rfl (Sub.cons rfl (Sub.cons rfl (Sub.cons (lkB rfl) (Sub.nil _))))
   ·refine gg 3 rfl ?_
    refine hk6 _ ?_
    exact Sub.cons rfl (Sub.cons rfl (Sub.cons rfl (Sub.cons (lkB rfl) (Sub.nil _))))
  refine gg 1 rfl ?_
  refine askD hM (Rn.condD rfl) (fun h8 hM => ?_) (fun h8 hM => ?_)
  ·cases hM
  ·refine gg 4 rfl (Rn.q rfl (V.bldS (cs := [_, _]) st86 rfl rfl) (Rn.box rfl rfl rfl rfl rfl ?_))
   intro b9 w9 hb9 m9 e9
   have hm11 := (hm2.addBox hb9 e9 m9).nf [_, boxR _ _ [_, _]] rfl
   refine gg 6 rfl ?_
   obtain ⟨p12, e12, hM⟩ := bindE hM
   refine Rn.cl ck39 rfl rfl rfl rfl (m_disk_Disk_Names_sim (Z0 := All) e12 (fz_all (hm11.get 0 rfl)) :) ?_
   rintro _ w12 ⟨A12_0_0, c12_0_0, rfl, hq12⟩
   refine ⟨_, rfl, ?_⟩
   have hm14 := hm11.callF (flC (ownR_flat text_flat _ _ _ _) fl0) hq12
   refine Rn.q rfl (V.lenV Tryz.underlying87 rfl) (gg 2 rfl ?_)
   have hm15 := hm14.addNil 50 T_api_Span.rep
   have hm18 := (hm15.cut [0, 2] [1, 3] rfl (by decide)).nf ([_, _] ++ [_, _]) rfl
   obtain ⟨F17, hm17⟩ := hm18.fold (T_store_Store.sh b9 b0 ({ spans := ([] : List T_api_Span) } : T_store_Store)) ⟨none, 0, rfl⟩
   obtain ⟨j1, hj1, hM⟩ := jnE hM
   refine Rn.joinG (r := r) (G := PD × T_store_Store × (Nat → Prop) × (Nat → Prop)) (fun g => [(1, iv x1), (2, iv x2), (8, pt b9 0)]) (fun g w' => Hp Z0 (LS [diskO 73 78 5 F0 b0 x0]) w w' [ownR 9 A12_0_0 c12_0_0 textR p12, diskO 73 78 5 (g.2.2.1) b0 (g.1), T_store_Store.obj (g.2.2.2) b9 b0 (g.2.1)]) (fun g => j1 g.1 g.2.1) ?_ ?_
   ·subst hj1
    clear hM
    rintro ⟨y19, y20, F19, F20⟩ w21 hm21 hM
    try dsimp only at hM
    refine gg 6 rfl ?_
    obtain ⟨_, ⟨A22_1, c22_1, rfl⟩, hm22⟩ := hm21.unf 2 rfl
    replace hm22 := hm22.nf [_, _, _, _] rfl
    refine Rn.q rfl (V.ldB Tryz.isAgg41 rfl (hm22.get 2 rfl) rfl) (gg 2 rfl ?_)
    obtain ⟨p25, e25, hM⟩ := bindE hM
    refine Rn.cl ck44 rfl rfl rfl rfl (m_store_tiles_sim (Z0 := All) e25 (own_slR (hm22.get 3 rfl)) :) ?_
    rintro _ w25 ⟨rfl, hq25⟩
    refine ⟨_, rfl, ?_⟩
    have hm26 := hm22.call0 hq25
    refine Rn.q rfl (V.notB rfl) (gg 1 rfl ?_)
    refine askS hM (Rn.condS rfl) (fun h27 hM => ?_) (fun h27 hM => ?_)
    ·refine gg 5 rfl ?_
     have hm29 := hm26.addNone (fun z => T_store_Store.obj No 0 b0 z)
     refine Rn.retG2 Tryz.func16 rfl (rvT rfl) (rvT rfl) ?_
     obtain rfl := someE hM
     exact ⟨No, 0, F19, rfl, hm29.pick [4, 1] rfl (by decide)⟩
    ·refine gg 7 rfl ?_
     have hm31 := (hm26.cut [0, 1] [2, 3] rfl (by decide)).nf ([_, _] ++ [_, _]) rfl
     obtain ⟨F30, hm30⟩ := hm31.fold (T_store_Store.sh b9 b0 y20) ⟨A22_1, c22_1, rfl⟩
     have hm32 := hm30.toSome (R := (fun z => T_store_Store.obj F30 b9 b0 z)) 2 rfl
     refine Rn.retG2 Tryz.func16 rfl (rvT rfl) (rvT rfl) ?_
     obtain rfl := someE hM
     exact ⟨F30, b9, F19, rfl, hm32.pick [2, 1] rfl (by decide)⟩
   intro hk1
   clear hj1
   refine gg 1 rfl ?_
   refine Rn.loopF (G := Int × PD × T_store_Store × (Nat → Prop) × (Nat → Prop)) (fun g => [(0, pt b0 0), (1, iv x1), (2, iv x2), (8, pt b9 0), (31, .slice A12_0_0 (p12).length c12_0_0), (32, iv (p12.length : Int)), (33, iv (g.1))]) (fun g w' => Hp Z0 (LS [diskO 73 78 5 F0 b0 x0]) w w' [ownR 9 A12_0_0 c12_0_0 textR p12, diskO 73 78 5 (g.2.2.2.1) b0 (g.2.1), T_store_Store.obj (g.2.2.2.2) b9 b0 (g.2.2.1)]) (fun n g => m_store_Open_L1 p12 j1 n g.1 g.2.1 g.2.2.1) fuel (0, x0, ({ spans := ([] : List T_api_Span) } : T_store_Store), F0, F17) (sb ⟨rfl, rfl, rfl, rfl, rfl, rfl, rfl, trivial⟩) (hm17.pick [1, 0, 2] rfl (by decide)) hM (fun _ => rfl) ?_
   clear hM
   rintro m36 ⟨y33, y34, y35, F34, F35⟩ w36 hm36 hM hn36
   replace hM : m_store_Open_L1 p12 j1 (m36 + 1) y33 y34 y35 = some r := hM
   rw [m_store_Open_L1] at hM
   refine gg 5 rfl ?_
   refine askD hM (Rn.condD rfl) (fun h37 hM => ?_) (fun h37 hM => ?_)
   ·cases hM
   ·refine gg 1 rfl ?_
    exact hk1 (y34, y35, F34, F35) _ _ (sb ⟨rfl, rfl, rfl, trivial⟩) (hm36.pick [0, 1, 2] rfl (by decide)) hM

theorem m_slices_Clone_api_Span_api_Span_sim {Z0 : Nat → Prop} {w : World} {A0 : Option Addr} {c0 : Nat} {x0 : (List T_api_Span)} {r : (List T_api_Span)} (hM : m_slices_Clone_api_Span_api_Span x0 = some r) (f0 : (slR A0 c0 T_api_Span.rep x0).H Z0 w) :
    Calls Tryz.prog 52 #[.slice A0 (x0).length c0] w fun x w' => ∃ A_0_0 c_0_0, x = .returned (.slice A_0_0 (r).length c_0_0) ∧ Hp Z0 No w w' [ownR 50 A_0_0 c_0_0 T_api_Span.rep r] := by
  exact clone_52 w A0 c0 x0 f0 hM

theorem m_store_Store_Spans_sim {Z0 : Nat → Prop} {w : World} {F0 : Nat → Prop} {b0 : Nat} {x0 : T_store_Store} {FD : Nat → Prop} {bD : Nat} {xD : PD} {r : (List T_api_Span)} (hM : m_store_Store_Spans x0 xD = some r) (f0 : (fzR (T_store_Store.obj F0 b0 bD x0)).H Z0 w) (f1 : (fzR (diskO 73 78 5 FD bD xD)).H Z0 w) :
    Calls Tryz.prog 20 #[pt b0 0] w fun x w' => ∃ A_0_0 c_0_0, x = .returned (.slice A_0_0 (r).length c_0_0) ∧ Hp Z0 No w w' [ownR 50 A_0_0 c_0_0 T_api_Span.rep r] := by
 have hm0 := Hp.nil Z0 No w
 have hc0 := Calm.nil
 have hm2 := hm0.know (fzR (T_store_Store.obj F0 b0 bD x0)) (fun _ h => h) (hm0.in0 hc0 f0)
 replace hc0 := hc0.snoc (r := fzR (T_store_Store.obj F0 b0 bD x0)) (fun _ h => h)
 have hm3 := hm2.know (fzR (diskO 73 78 5 FD bD xD)) (fun _ h => h) (hm2.in0 hc0 f1)
 replace hc0 := hc0.snoc (r := fzR (diskO 73 78 5 FD bD xD)) (fun _ h => h)
 refine Rn.enter Tryz.func20 rfl rfl (Nat.le_of_ble_eq_true rfl) ?_
 refine gg 9 rfl ?_
 obtain ⟨_, ⟨A4_1, c4_1, rfl⟩, hm4⟩ := hm3.unfz 0 rfl
 replace hm4 := hm4.nf [_, _, _, _] rfl
 have hm9 := hm4.fzSl 3 rfl
 refine Rn.q rfl (V.ldB Tryz.isAgg41 rfl (hm9.getz 2 rfl) rfl) ?_
 obtain ⟨p10, e10, hM⟩ := bindE hM
 refine Rn.cl ck52 rfl rfl rfl rfl (m_slices_Clone_api_Span_api_Span_sim (Z0 := All) e10 (slR_all (hm9.get 4 rfl)) :) ?_
 rintro _ w10 ⟨A10_0_0, c10_0_0, rfl, hq10⟩
 refine ⟨_, rfl, ?_⟩
 have hm12 := hm9.callF (flC (ownR_flat T_api_Span.flat _ _ _ _) fl0) hq10
 refine gg 2 rfl ?_
 refine Rn.retG1 Tryz.func20 rfl (rvT rfl) ?_
 obtain rfl := someE hM
 exact ⟨A10_0_0, c10_0_0, rfl, hm12.pick [5] rfl (by decide)⟩

theorem m_frame_four_sim {Z0 : Nat → Prop} {w : World} {x0 : UInt32} {r : (List UInt8)} (hM : m_frame_four x0 = some r)  :
    Calls Tryz.prog 86 #[u32v x0] w fun x w' => ∃ A_0_0 c_0_0, x = .returned (.slice A_0_0 (r).length c_0_0) ∧ Hp Z0 No w w' [ownR 5 A_0_0 c_0_0 byteR r] := by
 have hm0 := Hp.nil Z0 No w
 have hc0 := Calm.nil
 refine Rn.enter Tryz.func86 rfl rfl (Nat.le_of_ble_eq_true rfl) ?_
 refine gg 7 rfl (Rn.q rfl (V.cv8 Tryz.underlying160 Tryz.underlying5 rfl) (gg 1 rfl (Rn.q rfl (V.sh32 rfl rfl _ 8 rfl rfl (b32_shr _ _ _ 8 (by decide))) (Rn.q rfl (V.cv8 Tryz.underlying160 Tryz.underlying5 rfl) (gg 1 rfl (Rn.q rfl (V.sh32 rfl rfl _ 16 rfl rfl (b32_shr _ _ _ 16 (by decide))) (Rn.q rfl (V.cv8 Tryz.underlying160 Tryz.underlying5 rfl) (gg 1 rfl (Rn.q rfl (V.sh32 rfl rfl _ 24 rfl rfl (b32_shr _ _ _ 24 (by decide))) (Rn.q rfl (V.cv8 Tryz.underlying160 Tryz.underlying5 rfl) (Rn.bslS rfl rfl rfl Tryz.underlying51 el5 rfl rfl rfl rfl (by first | exact szs rfl | (simp [Value.cells]; done)) (by decide) ?_)))))))))))
 intro b1 w1 hb1 m1 e1
 have hm2 := hm0.addLit (rep := byteR) (xs := ([toU8 ((x0).toNat : Int), toU8 ((x0 >>> UInt32.ofNat 8).toNat : Int), toU8 ((x0 >>> UInt32.ofNat 16).toNat : Int), toU8 ((x0 >>> UInt32.ofNat 24).toNat : Int)] : List UInt8)) (vss := [[u8v (toU8 ((x0).toNat : Int))], [u8v (toU8 ((x0 >>> UInt32.ofNat 8).toNat : Int))], [u8v (toU8 ((x0 >>> UInt32.ofNat 16).toNat : Int))], [u8v (toU8 ((x0 >>> UInt32.ofNat 24).toNat : Int))]]) hb1 e1 m1 rfl rfl rfl ((rels_cons (fun _ _ => ⟨rfl, trivial⟩) (rels_cons (fun _ _ => ⟨rfl, trivial⟩) (rels_cons (fun _ _ => ⟨rfl, trivial⟩) (rels_cons (fun _ _ => ⟨rfl, trivial⟩) rels0)))))
 refine gg 2 rfl ?_
 refine Rn.retG1 Tryz.func86 rfl (rvT rfl) ?_
 obtain rfl := someE hM
 exact ⟨(some ⟨b1, 0, none⟩), 4, rfl, hm2.pick [0] rfl (by decide)⟩

theorem m_frame_Wrap_sim {Z0 : Nat → Prop} {w : World} {A0 : Option Addr} {c0 : Nat} {x0 : (List UInt8)} {r : ((List UInt8) × Int)} (hM : m_frame_Wrap x0 = some r) (f0 : (slR A0 c0 byteR x0).H Z0 w) :
    Calls Tryz.prog 57 #[.slice A0 (x0).length c0] w fun x w' => ∃ A_0_0 c_0_0, x = .returned (.tuple #[.slice A_0_0 (r.1).length c_0_0, iv r.2]) ∧ Hp Z0 No w w' [ownR 5 A_0_0 c_0_0 byteR r.1] := by
 have hm0 := Hp.nil Z0 No w
 have hc0 := Calm.nil
 have hm2 := hm0.know (slR A0 c0 byteR x0) (fun _ h => h) (hm0.in0 hc0 f0)
 replace hc0 := hc0.snoc (r := slR A0 c0 byteR x0) (fun _ h => h)
 refine Rn.enter Tryz.func57 rfl rfl (Nat.le_of_ble_eq_true rfl) ?_
 refine gg 9 rfl (Rn.q rfl (V.lenV Tryz.underlying51 rfl) (gg 2 rfl ?_))
 refine askD hM (Rn.condD rfl) (fun h3 hM => ?_) (fun h3 hM => ?_)
 ·cases hM
 ·refine gg 3 rfl (Rn.bslS rfl rfl rfl Tryz.underlying51 el5 rfl rfl rfl rfl (by first | exact szs rfl | (simp [Value.cells]; done)) (by decide) ?_)
  intro b4 w4 hb4 m4 e4
  have hm5 := hm2.addLit (rep := byteR) (xs := ([(165 : UInt8)] : List UInt8)) (vss := [[u8v (165 : UInt8)]]) hb4 e4 m4 rfl rfl rfl ((rels_cons (fun _ _ => ⟨rfl, trivial⟩) rels0))
  refine gg 1 rfl (Rn.q rfl (V.lenV Tryz.underlying51 rfl) (Rn.q rfl (V.cv32 Tryz.underlying3 Tryz.underlying160 rfl) ?_))
  obtain ⟨p7, e7, hM⟩ := bindE hM
  refine Rn.cl ck86 rfl rfl rfl rfl (m_frame_four_sim (Z0 := All) e7  :) ?_
  rintro _ w7 ⟨A7_0_0, c7_0_0, rfl, hq7⟩
  refine ⟨_, rfl, ?_⟩
  have hm9 := hm5.callF (flC (ownR_flat byte_flat _ _ _ _) fl0) hq7
  obtain ⟨z10, e10, hM⟩ := bindE hM
  refine Rn.appH hm9 1 rfl e10 rfl rfl rfl Tryz.underlying51 el5 rfl rfl rfl rfl (hm9.srcO 2 rfl) ?_
  intro A10 c10 w10 hm10
  refine gg 7 rfl ?_
  obtain ⟨p12, e12, hM⟩ := bindE hM
  refine Rn.cl ck87 rfl rfl rfl rfl (m_frame_sum_sim (Z0 := All) e12 (own_slR (hm10.get 1 rfl)) (slR_all (hm10.get 0 rfl)) :) ?_
  rintro _ w12 ⟨rfl, hq12⟩
  refine ⟨_, rfl, ?_⟩
  have hm13 := hm10.call0 hq12
  obtain ⟨p14, e14, hM⟩ := bindE hM
  refine Rn.cl ck86 rfl rfl rfl rfl (m_frame_four_sim (Z0 := All) e14  :) ?_
  rintro _ w14 ⟨A14_0_0, c14_0_0, rfl, hq14⟩
  refine ⟨_, rfl, ?_⟩
  have hm16 := hm13.callF (flC (ownR_flat byte_flat _ _ _ _) fl0) hq14
  obtain ⟨z17, e17, hM⟩ := bindE hM
  refine Rn.appH hm16 1 rfl e17 rfl rfl rfl Tryz.underlying51 el5 rfl rfl rfl rfl (hm16.srcO 3 rfl) ?_
  intro A17 c17 w17 hm17
  refine gg 6 rfl ?_
  obtain ⟨z19, e19, hM⟩ := bindE hM
  refine Rn.appH hm17 1 rfl e19 rfl rfl rfl Tryz.underlying51 el5 rfl rfl rfl rfl (hm17.src 0 rfl) ?_
  intro A19 c19 w19 hm19
  refine gg 3 rfl ?_
  refine Rn.retG2 Tryz.func57 rfl (rvT rfl) (rvT rfl) ?_
  obtain rfl := someE hM
  exact ⟨A19, c19, rfl, hm19.pick [1] rfl (by decide)⟩

theorem m_disk_Disk_Create_sim {Z0 : Nat → Prop} {w : World} {F0 : Nat → Prop} {b0 : Nat} {x0 : PD} {x1 : (List UInt8)} {r : (Int × PD)} (hM : m_disk_Disk_Create x0 x1 = some r) (hL : Lent Z0 w [diskO 73 78 5 F0 b0 x0]) :
    Calls Tryz.prog 58 #[pt b0 0, Str (x1)] w fun x w' => ∃ F_p0, x = .returned (iv r.1) ∧ Hp Z0 (LS [diskO 73 78 5 F0 b0 x0]) w w' [diskO 73 78 5 F_p0 b0 r.2] := by
  unfold m_disk_Disk_Create at hM
  split at hM
  · rename_i hg
    obtain rfl := someE hM
    have hd : DkAt 73 78 5 w b0 F0 x0 := hL.1 0 _ rfl
    refine (create_spec x1 w hg hd).mono ?_
    rintro x w' ⟨rfl, F', d, hx, hF⟩
    exact ⟨F', rfl, hL.turn1 hx hF fun _ => d⟩
  · cases hM

theorem m_disk_Disk_Append_sim {Z0 : Nat → Prop} {w : World} {F0 : Nat → Prop} {b0 : Nat} {x0 : PD} {x1 : (List UInt8)} {A2 : Option Addr} {c2 : Nat} {x2 : (List UInt8)} {r : (Int × PD)} (hM : m_disk_Disk_Append x0 x1 x2 = some r) (hL : Lent Z0 w [diskO 73 78 5 F0 b0 x0, slR A2 c2 byteR x2]) :
    Calls Tryz.prog 59 #[pt b0 0, Str (x1), .slice A2 (x2).length c2] w fun x w' => ∃ F_p0, x = .returned (iv r.1) ∧ Hp Z0 (LS [diskO 73 78 5 F0 b0 x0, slR A2 c2 byteR x2]) w w' [diskO 73 78 5 F_p0 b0 r.2] := by
  unfold m_disk_Disk_Append at hM
  split at hM
  · rename_i hg
    obtain rfl := someE hM
    have hd : DkAt 73 78 5 w b0 F0 x0 := hL.1 0 _ rfl
    have hs := hL.1 1 _ rfl
    refine (append_spec x1 x2 A2 c2 _ w hg.1 hg.2.1 (by omega) rfl hs.2.2 (fun b hb hF => hb.2 0 _ rfl hF) hd).mono ?_
    rintro x w' ⟨rfl, F', d, hx, hF⟩
    exact ⟨F', rfl, hL.turn1 hx hF fun _ => d⟩
  · cases hM

theorem m_disk_Disk_Sync_sim {Z0 : Nat → Prop} {w : World} {F0 : Nat → Prop} {b0 : Nat} {x0 : PD} {x1 : (List UInt8)} {r : (Int × PD)} (hM : m_disk_Disk_Sync x0 x1 = some r) (hL : Lent Z0 w [diskO 73 78 5 F0 b0 x0]) :
    Calls Tryz.prog 60 #[pt b0 0, Str (x1)] w fun x w' => ∃ F_p0, x = .returned (iv r.1) ∧ Hp Z0 (LS [diskO 73 78 5 F0 b0 x0]) w w' [diskO 73 78 5 F_p0 b0 r.2] := by
  unfold m_disk_Disk_Sync at hM
  split at hM
  · rename_i hg
    obtain rfl := someE hM
    have hd : DkAt 73 78 5 w b0 F0 x0 := hL.1 0 _ rfl
    refine (sync_spec x1 w hg hd).mono ?_
    rintro x w' ⟨rfl, F', d, hx, hF⟩
    exact ⟨F', rfl, hL.turn1 hx hF fun _ => d⟩
  · cases hM

theorem m_store_Store_Put_sim {Z0 : Nat → Prop} {w : World} {F0 : Nat → Prop} {b0 : Nat} {x0 : T_store_Store} {x1 : Int} {A2 : Option Addr} {c2 : Nat} {x2 : (List UInt8)} {FD : Nat → Prop} {bD : Nat} {xD : PD} {r : (Int × PD)} (hM : m_store_Store_Put x0 x1 x2 xD = some r) (hL : Lent Z0 w [T_store_Store.obj F0 b0 bD x0, diskO 73 78 5 FD bD xD, slR A2 c2 byteR x2]) :
    Calls Tryz.prog 23 #[pt b0 0, iv x1, .slice A2 (x2).length c2] w fun x w' => ∃ F_pD F_p0, x = .returned (iv r.1) ∧ Hp Z0 (LS [T_store_Store.obj F0 b0 bD x0, diskO 73 78 5 FD bD xD, slR A2 c2 byteR x2]) w w' [diskO 73 78 5 F_pD bD r.2, T_store_Store.obj F_p0 b0 bD x0] := by
 have hm0 := hL.start
 refine Rn.enter Tryz.func23 rfl rfl (Nat.le_of_ble_eq_true rfl) ?_
 refine gg 7 rfl ?_
 obtain ⟨p3, e3, hM⟩ := bindE hM
 refine Rn.cl ck8 rfl rfl rfl rfl (m_store_Name_sim (Z0 := All) e3  :) ?_
 rintro _ w3 ⟨rfl, hq3⟩
 refine ⟨_, rfl, ?_⟩
 have hm4 := hm0.call0 hq3
 refine gg 6 rfl (Rn.q rfl (V.eqlS rfl rfl) (gg 1 rfl ?_))
 refine askD hM (Rn.condD rfl) (fun h5 hM => ?_) (fun h5 hM => ?_)
 ·cases hM
 ·refine gg 4 rfl ?_
  obtain ⟨p6, e6, hM⟩ := bindE hM
  refine Rn.cl ck57 rfl rfl rfl rfl (m_frame_Wrap_sim (Z0 := All) e6 (slR_all (hm4.get 2 rfl)) :) ?_
  rintro _ w6 ⟨A6_0_0, c6_0_0, rfl, hq6⟩
  refine ⟨_, rfl, ?_⟩
  have hm8 := hm4.callF (flC (ownR_flat byte_flat _ _ _ _) fl0) hq6
  refine gg 12 rfl ?_
  refine askD hM (Rn.condD rfl) (fun h9 hM => ?_) (fun h9 hM => ?_)
  ·refine gg 4 rfl ?_
   obtain ⟨_, ⟨A10_1, c10_1, rfl⟩, hm10⟩ := hm8.unf 0 rfl
   replace hm10 := hm10.nf [_, _, _, _, _] rfl
   refine Rn.q rfl (V.ldB Tryz.isAgg28 rfl (hm10.get 3 rfl) rfl) (gg 1 rfl ?_)
   obtain ⟨p13, e13, hM⟩ := bindE hM
   have hm14 := (hm10.cut [1, 2, 3, 4] [0] rfl (by decide)).nf ([_, _, _, _] ++ [_]) rfl
   refine Rn.cl ck58 rfl rfl rfl rfl (m_disk_Disk_Create_sim e13 hm14.lend :) ?_
   rintro _ w13 ⟨F13_p0, rfl, hq13⟩
   refine ⟨_, rfl, ?_⟩
   have hm16 := hm14.callAZ hq13
   refine gg 8 rfl ?_
   refine askD hM (Rn.condD rfl) (fun h17 hM => ?_) (fun h17 hM => ?_)
   ·cases hM
   ·refine gg 7 rfl (Rn.q rfl (V.ldB Tryz.isAgg28 rfl (hm16.get 2 rfl) rfl) (gg 2 rfl ?_))
    have hm20 := hm16.freeze 1 rfl
    obtain ⟨p18, e18, hM⟩ := bindE hM
    have hm21 := hm20.dup 1 rfl (fun _ h => h)
    have hm23 := (hm21.cut [0, 1, 2, 3] [4, 5] rfl (by decide)).nf ([_, _, _, _] ++ [_, _]) rfl
    refine Rn.cl ck59 rfl rfl rfl rfl (m_disk_Disk_Append_sim e18 hm23.lend :) ?_
    rintro _ w18 ⟨F18_p0, rfl, hq18⟩
    refine ⟨_, rfl, ?_⟩
    have hm25 := hm23.callAZ hq18
    refine gg 7 rfl ?_
    refine askD hM (Rn.condD rfl) (fun h26 hM => ?_) (fun h26 hM => ?_)
    ·refine gg 4 rfl (Rn.q rfl (V.ldB Tryz.isAgg28 rfl (hm25.get 2 rfl) rfl) (gg 1 rfl ?_))
     obtain ⟨p27, e27, hM⟩ := bindE hM
     have hm28 := (hm25.cut [0, 1, 2, 3] [4] rfl (by decide)).nf ([_, _, _, _] ++ [_]) rfl
     refine Rn.cl ck60 rfl rfl rfl rfl (m_disk_Disk_Sync_sim e27 hm28.lend :) ?_
     rintro _ w27 ⟨F27_p0, rfl, hq27⟩
     refine ⟨_, rfl, ?_⟩
     have hm30 := hm28.callAZ hq27
     refine gg 8 rfl ?_
     refine Rn.cutR [] [(0, pt b0 0), (7, Str (p3)), (9, iv p27.1), (50, .bool (decide ((p27.1 ≠ 0) ∧ (p27.1 ≠ 13))))] (fun hk31 => ?_) ?_
     ·refine Rn.partD (t := 47) rfl (fun h32 => ?_) (fun h32 => ?_)
      ·refine gg 3 rfl ?_
       refine hk31 _ ?_
       exact Sub.cons rfl (Sub.cons rfl (Sub.cons rfl (Sub.cons (lkB rfl) (Sub.nil _))))
      ·refine gg 3 rfl ?_
       refine hk31 _ ?_
       exact Sub.cons rfl (Sub.cons rfl (Sub.cons rfl (Sub.cons (lkB rfl) (Sub.nil _))))
     refine gg 1 rfl ?_
     refine askD hM (Rn.condD rfl) (fun h33 hM => ?_) (fun h33 hM => ?_)
     ·cases hM
     ·refine gg 6 rfl ?_
      have hm35 := (hm30.cut [0, 1, 4] [2, 3] rfl (by decide)).nf ([_, _, _] ++ [_, _]) rfl
      obtain ⟨F34, hm34⟩ := hm35.fold (T_store_Store.sh b0 bD x0) ⟨A10_1, c10_1, rfl⟩
      refine Rn.retG1 Tryz.func23 rfl (rvT rfl) ?_
      obtain rfl := someE hM
      exact ⟨F27_p0, F34, rfl, hm34.pick [2, 3] rfl (by decide)⟩
    ·cases hM
  ·cases hM

theorem m_store_Store_Keep_sim {Z0 : Nat → Prop} {w : World} {F0 : Nat → Prop} {b0 : Nat} {x0 : T_store_Store} {x1 : T_api_Span} {FD : Nat → Prop} {bD : Nat} {xD : PD} {r : (Bool × T_store_Store)} (hM : m_store_Store_Keep x0 x1 xD = some r) (hL : Lent Z0 w [T_store_Store.obj F0 b0 bD x0, diskO 73 78 5 FD bD xD]) :
    Calls Tryz.prog 25 #[pt b0 0, .agg [iv x1.First, iv x1.End].toArray] w fun x w' => ∃ F_p0 F_pD, x = .returned (.bool (r.1)) ∧ Hp Z0 (LS [T_store_Store.obj F0 b0 bD x0, diskO 73 78 5 FD bD xD]) w w' [T_store_Store.obj F_p0 b0 bD r.2, diskO 73 78 5 F_pD bD xD] := by
 have hm0 := hL.start
 refine Rn.enter Tryz.func25 rfl rfl (Nat.le_of_ble_eq_true rfl) ?_
 refine gg 2 rfl (Rn.box rfl rfl rfl rfl rfl ?_)
 intro b2 w2 hb2 m2 e2
 have hm4 := (hm0.addBox hb2 e2 m2).nf [_, _, boxR _ _ [_, _]] rfl
 refine gg 7 rfl ?_
 obtain ⟨_, ⟨A5_1, c5_1, rfl⟩, hm5⟩ := hm4.unf 0 rfl
 replace hm5 := hm5.nf [_, _, _, _] rfl
 refine Rn.q rfl (V.ldB Tryz.isAgg41 rfl (hm5.get 2 rfl) rfl) (Rn.q rfl (V.lenV Tryz.underlying41 rfl) (gg 4 rfl ?_))
 have hm9 := (hm5.cut [0, 1] [2, 3] rfl (by decide)).nf ([_, _] ++ [_, _]) rfl
 obtain ⟨F8, hm8⟩ := hm9.fold (T_store_Store.sh b0 bD x0) ⟨A5_1, c5_1, rfl⟩
 obtain ⟨j1, hj1, hM⟩ := jnE hM
 refine Rn.joinG (r := r) (G := Bool × (Nat → Prop) × (Nat → Prop)) (fun g => [(0, pt b0 0), (3, pt b2 0), (33, .bool ((g.1)))]) (fun g w' => Hp Z0 (LS [T_store_Store.obj F0 b0 bD x0, diskO 73 78 5 FD bD xD]) w w' [diskO 73 78 5 (g.2.1) bD xD, boxR b2 50 [iv x1.First, iv x1.End], T_store_Store.obj (g.2.2) b0 bD x0]) (fun g => j1 g.1) ?_ ?_
 ·subst hj1
  clear hM
  rintro ⟨y12, F10, F11⟩ w13 hm13 hM
  try dsimp only at hM
  refine askS hM (Rn.condS rfl) (fun h14 hM => ?_) (fun h14 hM => ?_)
  ·refine gg 4 rfl ?_
   refine Rn.retG1 Tryz.func25 rfl (rvT rfl) ?_
   obtain rfl := someE hM
   exact ⟨F11, F10, rfl, hm13.pick [2, 0] rfl (by decide)⟩
  ·refine gg 2 rfl ?_
   obtain ⟨j2, hj2, hM⟩ := jnE hM
   refine Rn.joinG (r := r) (G := T_store_Store × (Nat → Prop) × (Nat → Prop)) (fun g => []) (fun g w' => Hp Z0 (LS [T_store_Store.obj F0 b0 bD x0, diskO 73 78 5 FD bD xD]) w w' [diskO 73 78 5 (g.2.1) bD xD, boxR b2 50 [iv x1.First, iv x1.End], T_store_Store.obj (g.2.2) b0 bD (g.1)]) (fun g => j2 g.1) ?_ ?_
   ·subst hj2
    clear hM
    rintro ⟨y16, F15, F16⟩ w17 hm17 hM
    try dsimp only at hM
    refine gg 4 rfl ?_
    refine Rn.retG1 Tryz.func25 rfl (rvT rfl) ?_
    obtain rfl := someE hM
    exact ⟨F16, F15, rfl, hm17.pick [2, 0] rfl (by decide)⟩
   intro hk2
   clear hj2
   have hm19 := (hm13.cutF [0, 1] [2] [] rfl (by decide) trivial).nf ([_, _] ++ [_]) rfl
   refine Rn.drawF rfl hm19 ?_
   intro w20 hmo20 hm20
   refine dd [0, 1, 2, 3] (by kernel_rfl) rfl rfl ?_
   obtain ⟨_, ⟨A21_1, c21_1, rfl⟩, hm21⟩ := hm20.unf 0 rfl
   replace hm21 := hm21.nf [_, _] rfl
   refine RH.take 5 (by kernel_rfl) rfl rfl rfl rfl (fun w' hDr => V.ldBA [_, _] Tryz.isAgg50 Tryz.sizeOf50 rfl ((hmo20.awayK hDr).get 1 rfl) rfl rfl) ?_
   obtain ⟨z27, e27, hM⟩ := bindE hM
   refine RH.both 4 6 (by kernel_rfl) ?_ ?_
   ·refine RB.here fun hS4 => RB.one 4 rfl rfl rfl rfl (V.ldB Tryz.isAgg41 rfl (hm21.get 0 rfl) rfl) hS4 ?_
    refine RH.bslS 6 (by kernel_rfl) rfl rfl rfl Tryz.underlying41 el50 rfl rfl rfl rfl (by first | exact szs rfl | (simp [Value.cells]; done)) (by decide) ?_
    intro b33 w33 hb33 m33 e33
    have hm34 := hm21.addLit (rep := T_api_Span.rep) (xs := ([x1] : List T_api_Span)) (vss := [[iv x1.First, iv x1.End]]) hb33 e33 m33 rfl rfl rfl ((rels_cons (fun _ _ => ⟨_, _, rfl, ⟨rfl, trivial⟩, ⟨rfl, trivial⟩⟩) rels0))
    refine ⟨hm34.fr, ?_⟩
    have e36 := e27
    refine RH.appH 7 (by kernel_rfl) hm34 1 rfl e36 rfl rfl rfl Tryz.underlying41 el50 rfl rfl rfl rfl (hm34.srcO 2 rfl) ?_
    intro A36 c36 w36 hm36
    refine ⟨hm36.fr, ?_⟩
    refine dd [8, 9] (by kernel_rfl) rfl rfl ?_
    refine RH.st 10 (by kernel_rfl) rfl rfl Tryz.sizeOf41 rfl rfl rfl rfl (by first | exact ones rfl | (simp [Value.oneCell']; done)) (hm36.get 0 rfl) (by first | exact Nat.le_of_ble_eq_true rfl | (simp; done)) ?_
    intro w38 m38 x38
    have hm39 := (hm36.st 0 rfl x38 m38).nf [boxR _ _ [_, _], _, _] rfl
    refine ⟨hm39.fr, ?_⟩
    refine RH.doneP (by kernel_rfl) ?_
    have hm40 := hmo20.callAZ hm39
    have hm41 := (hm40.pick [0, 1, 2, 3, 4] rfl (by decide)).nf [_, _, _, _, _] rfl
    have hm43 := (hm41.cut [0, 1, 4] [2, 3] rfl (by decide)).nf ([_, _, _] ++ [_, _]) rfl
    obtain ⟨F42, hm42⟩ := hm43.fold (T_store_Store.sh b0 bD ({ spans := z27 } : T_store_Store)) ⟨A36, c36, rfl⟩
    exact hk2 (({ spans := z27 } : T_store_Store), F10, F42) _ _ (sb trivial) (hm42.pick [0, 1, 3] rfl (by decide)) hM
   ·refine RB.bslS 6 rfl rfl rfl Tryz.underlying41 el50 rfl rfl rfl rfl (by first | exact szs rfl | (simp [Value.cells]; done)) (by decide) ?_
    intro b44 w44 hb44 m44 e44
    have hm45 := hm21.addLit (rep := T_api_Span.rep) (xs := ([x1] : List T_api_Span)) (vss := [[iv x1.First, iv x1.End]]) hb44 e44 m44 rfl rfl rfl ((rels_cons (fun _ _ => ⟨_, _, rfl, ⟨rfl, trivial⟩, ⟨rfl, trivial⟩⟩) rels0))
    refine ⟨hm45.fr, ?_⟩
    refine RH.here fun hS4 => RH.one 4 (by kernel_rfl) rfl rfl rfl rfl (V.ldB Tryz.isAgg41 rfl (hm45.get 0 rfl) rfl) hS4 ?_
    have e47 := e27
    refine RH.appH 7 (by kernel_rfl) hm45 1 rfl e47 rfl rfl rfl Tryz.underlying41 el50 rfl rfl rfl rfl (hm45.srcO 2 rfl) ?_
    intro A47 c47 w47 hm47
    refine ⟨hm47.fr, ?_⟩
    refine dd [8, 9] (by kernel_rfl) rfl rfl ?_
    refine RH.st 10 (by kernel_rfl) rfl rfl Tryz.sizeOf41 rfl rfl rfl rfl (by first | exact ones rfl | (simp [Value.oneCell']; done)) (hm47.get 0 rfl) (by first | exact Nat.le_of_ble_eq_true rfl | (simp; done)) ?_
    intro w49 m49 x49
    have hm50 := (hm47.st 0 rfl x49 m49).nf [boxR _ _ [_, _], _, _] rfl
    refine ⟨hm50.fr, ?_⟩
    refine RH.doneP (by kernel_rfl) ?_
    have hm51 := hmo20.callAZ hm50
    have hm52 := (hm51.pick [0, 1, 2, 3, 4] rfl (by decide)).nf [_, _, _, _, _] rfl
    have hm54 := (hm52.cut [0, 1, 4] [2, 3] rfl (by decide)).nf ([_, _, _] ++ [_, _]) rfl
    obtain ⟨F53, hm53⟩ := hm54.fold (T_store_Store.sh b0 bD ({ spans := z27 } : T_store_Store)) ⟨A47, c47, rfl⟩
    exact hk2 (({ spans := z27 } : T_store_Store), F10, F53) _ _ (sb trivial) (hm53.pick [0, 1, 3] rfl (by decide)) hM
 intro hk1
 clear hj1
 refine Rn.drawP rfl hm8 ?_
 intro w55 hm55
 refine dd [0] (by kernel_rfl) rfl rfl ?_
 refine RH.takeP 1 (by kernel_rfl) rfl rfl rfl rfl (V.ldB Tryz.isAgg3 rfl (hm55.get 1 rfl) rfl) ?_
 refine dd [2] (by kernel_rfl) rfl rfl ?_
 refine RH.takeP 3 (by kernel_rfl) rfl rfl rfl rfl (V.ldB Tryz.isAgg3 rfl (hm55.get 1 rfl) rfl) ?_
 refine dd [4, 5] (by kernel_rfl) rfl rfl ?_
 refine askD hM (RH.partD (t := 16) rfl) (fun h56 hM => ?_) (fun h56 hM => ?_)
 ·cases hM
 ·refine dd [6, 7, 8] (by kernel_rfl) rfl rfl ?_
  refine askD hM (RH.partD (t := 19) rfl) (fun h57 hM => ?_) (fun h57 hM => ?_)
  ·refine dd [9, 10, 11] (by kernel_rfl) rfl rfl ?_
   obtain ⟨_, ⟨A58_1, c58_1, rfl⟩, hm58⟩ := hm55.unf 2 rfl
   replace hm58 := hm58.nf [_, _, _, _] rfl
   refine RH.takeP 12 (by kernel_rfl) rfl rfl rfl rfl (V.ldB Tryz.isAgg41 rfl (hm58.get 2 rfl) rfl) ?_
   refine dd [13, 14] (by kernel_rfl) rfl rfl ?_
   obtain ⟨z61, e61, hM⟩ := bindE hM
   obtain ⟨kk61, ke61, kz61, kl61⟩ := idxE e61
   obtain ⟨g61, vs61, hA61, hR61, hrel61⟩ := hm58.ownAt 3 rfl kz61
   subst hA61
   obtain rfl := T_api_Span.relE hrel61
   refine RH.takeP 15 (by kernel_rfl) rfl rfl rfl rfl (V.ixE kk61 Tryz.underlying41 Tryz.sizeOf50 rfl rfl ke61 kl61) ?_
   refine dd [16] (by kernel_rfl) rfl rfl ?_
   refine RH.takeP 17 (by kernel_rfl) rfl rfl rfl rfl (V.ldR (o := kk61 * 2) (j := 1) Tryz.isAgg3 rfl hR61 rfl) ?_
   refine dd [18] (by kernel_rfl) rfl rfl ?_
   refine RH.takeP 19 (by kernel_rfl) rfl rfl rfl rfl (V.ldB Tryz.isAgg3 rfl (hm58.get 1 rfl) rfl) ?_
   refine dd [20, 21, 22] (by kernel_rfl) rfl rfl ?_
   refine RH.doneP (by kernel_rfl) ?_
   have hm63 := (hm58.cut [0, 1] [2, 3] rfl (by decide)).nf ([_, _] ++ [_, _]) rfl
   obtain ⟨F62, hm62⟩ := hm63.fold (T_store_Store.sh b0 bD x0) ⟨(some ⟨g61, 0, none⟩), c58_1, rfl⟩
   exact hk1 ((decide (z61.End ≠ x1.First)), FD, F62) _ _ (sb ⟨rfl, rfl, rfl, trivial⟩) (hm62.pick [0, 1, 2] rfl (by decide)) hM
  ·refine dd [9, 10, 11, 12, 13, 14, 15, 16, 17, 18, 19, 20, 21, 22] (by kernel_rfl) rfl rfl ?_
   refine RH.doneP (by kernel_rfl) ?_
   exact hk1 (false, FD, F8) _ _ (sb ⟨rfl, rfl, rfl, trivial⟩) (hm55.pick [0, 1, 2] rfl (by decide)) hM

theorem m_limnographlaw22_awake_sim {Z0 : Nat → Prop} {w : World}  {r : Bool} (hM : m_limnographlaw22_awake  = some r)  :
    Calls Tryz.prog 7 #[] w fun x w' => x = .returned (.bool (r)) ∧ Hp Z0 No w w' [] := by
 have hm0 := Hp.nil Z0 No w
 have hc0 := Calm.nil
 refine Rn.enter Tryz.func7 rfl rfl (Nat.le_of_ble_eq_true rfl) ?_
 refine gg 6 rfl ?_
 have hm2 := hm0.addNil 68 T_api_File.rep
 obtain ⟨p1, e1, hM⟩ := bindE hM
 refine Rn.cl ck11 rfl rfl rfl rfl (m_disk_New_sim (Z0 := All) e1 (own_slR (hm2.get 0 rfl)) :) ?_
 rintro _ w1 ⟨F1_0, b1_0, rfl, hq1⟩
 refine ⟨_, rfl, ?_⟩
 have hm5 := hm2.callF (flC (optR_flat fun _ => (diskO_flat _ _ _ _ _ _)) fl0) hq1
 refine gg 6 rfl (Rn.q rfl (V.eqlO Tryz.underlying28 rfl rfl) (gg 1 rfl ?_))
 obtain ⟨j1, hj1, hM⟩ := jnE hM
 refine Rn.joinR (r := r) (G := Bool × (Nat → Prop)) [] (fun g => [(1, .pointer (optP b1_0 p1)), (12, .bool ((g.1)))]) (fun g w' => Hp Z0 No w w' [ownR 68 none 0 T_api_File.rep ([] : List T_api_File), optR p1 (fun z => diskO 73 78 5 (g.2) b1_0 z)]) (fun g => j1 g.1) ?_ ?_
 ·subst hj1
  clear hM
  rintro ⟨y7, F6⟩ w8 hm8 hM
  try dsimp only at hM
  refine gg 1 rfl ?_
  refine askS hM (Rn.condS rfl) (fun h9 hM => ?_) (fun h9 hM => ?_)
  ·cases hM
  ·refine gg 4 rfl ?_
   obtain ⟨z11, e11, hM⟩ := bindE hM
   have hm12 := hm8.optSome 1 rfl e11
   refine Rn.say (t := 14) (pt b1_0 0) rfl (by rw [e11]; rfl) ?_
   obtain ⟨p10, e10, hM⟩ := bindE hM
   have hm13 := (hm12.cut [0] [1] rfl (by decide)).nf ([_] ++ [_]) rfl
   refine Rn.cl ck16 rfl rfl rfl rfl (m_store_Open_sim e10 hm13.lend :) ?_
   rintro _ w10 ⟨F10_0, b10_0, F10_p0, rfl, hq10⟩
   refine ⟨_, rfl, ?_⟩
   have hm16 := hm13.callAZ hq10
   refine gg 9 rfl ?_
   refine Rn.say (t := 19) (pt b1_0 0) rfl (by rw [e11]; rfl) ?_
   obtain ⟨p17, e17, hM⟩ := bindE hM
   have hm18 := (hm16.cut [0, 1] [2] rfl (by decide)).nf ([_, _] ++ [_]) rfl
   refine Rn.cl ck16 rfl rfl rfl rfl (m_store_Open_sim e17 hm18.lend :) ?_
   rintro _ w17 ⟨F17_0, b17_0, F17_p0, rfl, hq17⟩
   refine ⟨_, rfl, ?_⟩
   have hm21 := hm18.callAZ hq17
   refine gg 9 rfl (Rn.q rfl (V.neqO Tryz.underlying38 rfl rfl) (gg 1 rfl ?_))
   refine Rn.cutR [6, 7, 8, 9, 10, 11, 12, 13, 14, 15, 16, 17, 18, 19, 20, 21, 22, 23, 24, 25, 26, 27, 28, 29, 30, 31, 32, 33, 34, 35, 36, 37, 38] [(2, .pointer (optP b10_0 p10.1)), (4, .pointer (optP b17_0 p17.1)), (5, iv p17.2.1), (28, .bool (decide (((!((p10.1).isNone)) = true) ∧ (p10.2.1 = 0))))] (fun hk22 => ?_) ?_
   ·refine Rn.part (t := 25) rfl (fun h23 => ?_) (fun h23 => ?_)
    ·refine gg 3 rfl ?_
     refine hk22 _ ?_
     exact Sub.cons rfl (Sub.cons rfl (Sub.cons rfl (Sub.cons (lkB rfl) (Sub.nil _))))
    ·refine gg 3 rfl ?_
     refine hk22 _ ?_
     exact Sub.cons rfl (Sub.cons rfl (Sub.cons rfl (Sub.cons (lkB rfl) (Sub.nil _))))
   refine gg 1 rfl ?_
   obtain ⟨j2, hj2, hM⟩ := jnE hM
   refine Rn.joinR (r := r) (G := Bool × (Nat → Prop) × (Nat → Prop) × (Nat → Prop)) [10, 11, 12, 13, 14, 15, 16, 17, 18, 19, 20, 21, 22, 23, 24, 25, 26, 27, 28, 29, 30, 31, 32, 33, 34, 35, 36, 37, 38] (fun g => [(2, .pointer (optP b10_0 p10.1)), (5, iv p17.2.1), (32, .bool ((g.1)))]) (fun g w' => Hp Z0 No w w' [ownR 68 none 0 T_api_File.rep ([] : List T_api_File), optR p10.1 (fun z => T_store_Store.obj (g.2.1) b10_0 b1_0 z), optR p17.1 (fun z => T_store_Store.obj (g.2.2.1) b17_0 b1_0 z), diskO 73 78 5 (g.2.2.2) b1_0 p17.2.2]) (fun g => j2 g.1) ?_ ?_
   ·subst hj2
    clear hM
    rintro ⟨y27, F24, F25, F26⟩ w28 hm28 hM
    try dsimp only at hM
    refine gg 1 rfl ?_
    refine Rn.cutR [14, 15, 16, 17, 18, 19, 20, 21, 22, 23, 24, 25, 26, 27, 28, 29, 30, 31, 32, 33, 34, 35, 36, 37, 38] [(2, .pointer (optP b10_0 p10.1)), (36, .bool (decide ((y27 = true) ∧ (p17.2.1 = 15))))] (fun hk29 => ?_) ?_
    ·refine Rn.part (t := 33) rfl (fun h30 => ?_) (fun h30 => ?_)
     ·refine gg 3 rfl ?_
      refine hk29 _ ?_
      exact Sub.cons rfl (Sub.cons (lkB rfl) (Sub.nil _))
     ·refine gg 3 rfl ?_
      refine hk29 _ ?_
      exact Sub.cons rfl (Sub.cons (lkB rfl) (Sub.nil _))
    refine gg 1 rfl ?_
    obtain ⟨j3, hj3, hM⟩ := jnE hM
    refine Rn.joinR (r := r) (G := Bool × (Nat → Prop) × (Nat → Prop) × (Nat → Prop)) [20, 21, 22, 23, 24, 25, 26, 27, 28, 29, 30, 31, 32, 33, 34, 35, 36, 37, 38] (fun g => [(2, .pointer (optP b10_0 p10.1)), (42, .bool ((g.1)))]) (fun g w' => Hp Z0 No w w' [ownR 68 none 0 T_api_File.rep ([] : List T_api_File), optR p10.1 (fun z => T_store_Store.obj (g.2.1) b10_0 b1_0 z), optR p17.1 (fun z => T_store_Store.obj (g.2.2.1) b17_0 b1_0 z), diskO 73 78 5 (g.2.2.2) b1_0 p17.2.2]) (fun g => j3 g.1) ?_ ?_
    ·subst hj3
     clear hM
     rintro ⟨y34, F31, F32, F33⟩ w35 hm35 hM
     try dsimp only at hM
     refine gg 1 rfl ?_
     obtain ⟨j4, hj4, hM⟩ := jnE hM
     refine Rn.joinR (r := r) (G := Bool × PD × (Nat → Prop) × (Nat → Prop) × (Nat → Prop)) [27, 28, 29, 30, 31, 32, 33, 34, 35, 36, 37, 38] (fun g => [(2, .pointer (optP b10_0 p10.1)), (49, .bool ((g.1)))]) (fun g w' => Hp Z0 No w w' [ownR 68 none 0 T_api_File.rep ([] : List T_api_File), optR p10.1 (fun z => T_store_Store.obj (g.2.2.1) b10_0 b1_0 z), optR p17.1 (fun z => T_store_Store.obj (g.2.2.2.1) b17_0 b1_0 z), diskO 73 78 5 (g.2.2.2.2) b1_0 (g.2.1)]) (fun g => j4 g.1 g.2.1) ?_ ?_
     ·subst hj4
      clear hM
      rintro ⟨y38, y39, F36, F37, F39⟩ w40 hm40 hM
      try dsimp only at hM
      refine gg 1 rfl ?_
      obtain ⟨j5, hj5, hM⟩ := jnE hM
      refine Rn.joinR (r := r) (G := Bool × (Option T_store_Store) × (Nat → Prop) × (Nat → Prop) × (Nat → Prop)) [32, 33, 34, 35, 36, 37, 38] (fun g => [(2, .pointer (optP b10_0 (g.2.1))), (54, .bool ((g.1)))]) (fun g w' => Hp Z0 No w w' [ownR 68 none 0 T_api_File.rep ([] : List T_api_File), optR p17.1 (fun z => T_store_Store.obj (g.2.2.1) b17_0 b1_0 z), diskO 73 78 5 (g.2.2.2.1) b1_0 y39, optR (g.2.1) (fun z => T_store_Store.obj (g.2.2.2.2) b10_0 b1_0 z)]) (fun g => j5 g.1 g.2.1) ?_ ?_
      ·subst hj5
       clear hM
       rintro ⟨y43, y44, F41, F42, F44⟩ w45 hm45 hM
       try dsimp only at hM
       refine gg 1 rfl ?_
       obtain ⟨j6, hj6, hM⟩ := jnE hM
       refine Rn.joinR (r := r) (G := Bool × (Nat → Prop) × (Nat → Prop)) [38] (fun g => [(60, .bool ((g.1)))]) (fun g w' => Hp Z0 No w w' [ownR 68 none 0 T_api_File.rep ([] : List T_api_File), optR p17.1 (fun z => T_store_Store.obj (g.2.1) b17_0 b1_0 z), diskO 73 78 5 (g.2.2) b1_0 y39]) (fun g => j6 g.1) ?_ ?_
       ·subst hj6
        clear hM
        rintro ⟨y48, F46, F47⟩ w49 hm49 hM
        try dsimp only at hM
        refine gg 2 rfl ?_
        refine Rn.retG1 Tryz.func7 rfl (rvT rfl) ?_
        obtain rfl := someE hM
        exact ⟨rfl, hm49.pick [] rfl (by decide)⟩
       intro hk6
       clear hj6
       refine askS hM (Rn.part (t := 55) rfl) (fun h50 hM => ?_) (fun h50 hM => ?_)
       ·refine gg 1 rfl (Rn.q rfl (V.bldS (cs := [_, _]) st50 rfl rfl) ?_)
        obtain ⟨z52, e52, hM⟩ := bindE hM
        have hm53 := hm45.optSome 3 rfl e52
        refine Rn.say (t := 56) (pt b10_0 0) rfl (by rw [e52]; rfl) ?_
        obtain ⟨p51, e51, hM⟩ := bindE hM
        have hm54 := (hm53.cut [0, 1] [3, 2] rfl (by decide)).nf ([_, _] ++ [_, _]) rfl
        refine Rn.cl ck25 rfl rfl rfl rfl (m_store_Store_Keep_sim e51 hm54.lend :) ?_
        rintro _ w51 ⟨F51_p0, F51_pD, rfl, hq51⟩
        refine ⟨_, rfl, ?_⟩
        have hm57 := hm54.callAZ hq51
        refine Rn.q rfl (V.notB rfl) (gg 1 rfl ?_)
        exact hk6 ((!p51.1), F41, F51_pD) _ _ (sb ⟨rfl, trivial⟩) (hm57.pick [0, 1, 3] rfl (by decide)) hM
       ·cases hM
      intro hk5
      clear hj5
      refine askS hM (Rn.part (t := 50) rfl) (fun h58 hM => ?_) (fun h58 hM => ?_)
      ·refine gg 1 rfl (Rn.q rfl (V.bldS (cs := [_, _]) st50 rfl rfl) ?_)
       obtain ⟨z60, e60, hM⟩ := bindE hM
       have hm61 := hm40.optSome 1 rfl e60
       refine Rn.say (t := 51) (pt b10_0 0) rfl (by rw [e60]; rfl) ?_
       obtain ⟨p59, e59, hM⟩ := bindE hM
       have hm62 := (hm61.cut [0, 2] [1, 3] rfl (by decide)).nf ([_, _] ++ [_, _]) rfl
       refine Rn.cl ck25 rfl rfl rfl rfl (m_store_Store_Keep_sim e59 hm62.lend :) ?_
       rintro _ w59 ⟨F59_p0, F59_pD, rfl, hq59⟩
       refine ⟨_, rfl, ?_⟩
       have hm65 := hm62.callAZ hq59
       refine gg 1 rfl ?_
       refine Rn.say (t := 2) (pt b10_0 0) rfl (by rw [e60]; rfl) ?_
       have hm66 := hm65.toSome (R := (fun z => T_store_Store.obj F59_p0 b10_0 b1_0 z)) 2 rfl
       exact hk5 (p59.1, (some p59.2), F37, F59_pD, F59_p0) _ _ (sb ⟨rfl, rfl, trivial⟩) (hm66.pick [0, 1, 3, 2] rfl (by decide)) hM
      ·cases hM
     intro hk4
     clear hj4
     refine askS hM (Rn.part (t := 43) rfl) (fun h67 hM => ?_) (fun h67 hM => ?_)
     ·refine gg 1 rfl (Rn.bslS rfl rfl rfl Tryz.underlying51 el5 rfl rfl rfl rfl (by first | exact szs rfl | (simp [Value.cells]; done)) (by decide) ?_)
      intro b68 w68 hb68 m68 e68
      have hm69 := hm35.addLit (rep := byteR) (xs := ([(120 : UInt8)] : List UInt8)) (vss := [[u8v (120 : UInt8)]]) hb68 e68 m68 rfl rfl rfl ((rels_cons (fun _ _ => ⟨rfl, trivial⟩) rels0))
      refine Rn.cvbH hm69 4 rfl rfl rfl rfl Tryz.underlying51 Tryz.underlying5 rfl ?_
      intro w71 hm71
      obtain ⟨z74, e74, hM⟩ := bindE hM
      have hm75 := hm71.optSome 1 rfl e74
      refine Rn.say (t := 44) (pt b10_0 0) rfl (by rw [e74]; rfl) ?_
      obtain ⟨p73, e73, hM⟩ := bindE hM
      have hm76 := hm75.dup 4 rfl (fun _ h => h)
      have hm78 := (hm76.cut [0, 2, 4] [1, 3, 5] rfl (by decide)).nf ([_, _, _] ++ [_, _, _]) rfl
      refine Rn.cl ck23 rfl rfl rfl rfl (m_store_Store_Put_sim e73 hm78.lend :) ?_
      rintro _ w73 ⟨F73_pD, F73_p0, rfl, hq73⟩
      refine ⟨_, rfl, ?_⟩
      have hm81 := hm78.callAZ hq73
      refine gg 2 rfl ?_
      have hm82 := hm81.toOpt (R := (fun z => T_store_Store.obj F73_p0 b10_0 b1_0 z)) 4 rfl e74
      exact hk4 ((decide (p73.1 = 0)), p73.2, F73_p0, F32, F73_pD) _ _ (sb ⟨rfl, rfl, trivial⟩) (hm82.pick [0, 4, 1, 3] rfl (by decide)) hM
     ·cases hM
    intro hk3
    clear hj3
    refine askD hM (Rn.partD (t := 37) rfl) (fun h83 hM => ?_) (fun h83 hM => ?_)
    ·refine gg 1 rfl ?_
     obtain ⟨z85, e85, hM⟩ := bindE hM
     have hm86 := hm28.optSome 1 rfl e85
     refine Rn.say (t := 38) (pt b10_0 0) rfl (by rw [e85]; rfl) ?_
     obtain ⟨p84, e84, hM⟩ := bindE hM
     refine Rn.cl ck20 rfl rfl rfl rfl (m_store_Store_Spans_sim (Z0 := All) e84 (fz_all (hm86.get 1 rfl)) (fz_all (hm86.get 3 rfl)) :) ?_
     rintro _ w84 ⟨A84_0_0, c84_0_0, rfl, hq84⟩
     refine ⟨_, rfl, ?_⟩
     have hm88 := hm86.callF (flC (ownR_flat T_api_Span.flat _ _ _ _) fl0) hq84
     refine Rn.q rfl (V.lenV Tryz.underlying41 rfl) (gg 2 rfl ?_)
     have hm89 := hm88.toOpt (R := (fun z => T_store_Store.obj F24 b10_0 b1_0 z)) 1 rfl e85
     exact hk3 ((decide ((p84.length : Int) = 0)), F24, F25, F26) _ _ (sb ⟨rfl, rfl, trivial⟩) (hm89.pick [0, 1, 2, 3] rfl (by decide)) hM
    ·cases hM
   intro hk2
   clear hj2
   refine askD hM (Rn.partD (t := 29) rfl) (fun h90 hM => ?_) (fun h90 hM => ?_)
   ·refine gg 1 rfl (Rn.q rfl (V.eqlO Tryz.underlying38 rfl rfl) (gg 1 rfl ?_))
    exact hk2 (((p17.1).isNone), F10_0, F17_0, F17_p0) _ _ (sb ⟨rfl, rfl, rfl, trivial⟩) (hm21.pick [0, 1, 2, 3] rfl (by decide)) hM
   ·cases hM
 intro hk1
 clear hj1
 refine askS hM (Rn.part (t := 9) rfl) (fun h91 hM => ?_) (fun h91 hM => ?_)
 ·cases hM
 ·obtain ⟨p92, e92, hM⟩ := bindE hM
  refine Rn.cl ck8 rfl rfl rfl rfl (m_store_Name_sim (Z0 := All) e92  :) ?_
  rintro _ w92 ⟨rfl, hq92⟩
  refine ⟨_, rfl, ?_⟩
  have hm93 := hm5.call0 hq92
  refine Rn.q rfl (V.neqS rfl rfl) (gg 1 rfl ?_)
  exact hk1 ((decide (p92 ≠ ([115, 101, 103, 45, 48, 48, 48, 48, 48, 48, 48, 48, 48, 48, 48, 48, 48, 48, 48, 55] : List UInt8))), F1_0) _ _ (sb ⟨rfl, rfl, trivial⟩) (hm93.pick [0, 1] rfl (by decide)) hM

theorem m_limnographref22_Name_sim {Z0 : Nat → Prop} {w : World} {x0 : Int} {r : (List UInt8)} (hM : m_limnographref22_Name x0 = some r)  :
    Calls Tryz.prog 9 #[iv x0] w fun x w' => x = .returned (Str (r)) ∧ Hp Z0 No w w' [] := by
 have hm0 := Hp.nil Z0 No w
 have hc0 := Calm.nil
 refine Rn.enter Tryz.func9 rfl rfl (Nat.le_of_ble_eq_true rfl) ?_
 refine gg 10 rfl ?_
 refine Rn.cutR [] [(0, iv x0), (10, .bool (decide ((x0 < 0) ∨ (x0 > 4503599627370496))))] (fun hk1 => ?_) ?_
 ·refine Rn.partD (t := 7) rfl (fun h2 => ?_) (fun h2 => ?_)
  ·refine gg 3 rfl ?_
   refine hk1 _ ?_
   exact Sub.cons rfl (Sub.cons (lkB rfl) (Sub.nil _))
  ·refine gg 3 rfl ?_
   refine hk1 _ ?_
   exact Sub.cons rfl (Sub.cons (lkB rfl) (Sub.nil _))
 refine gg 1 rfl ?_
 refine askD hM (Rn.condD rfl) (fun h3 hM => ?_) (fun h3 hM => ?_)
 ·refine gg 4 rfl ?_
  refine Rn.retG1 Tryz.func9 rfl (rvT rfl) ?_
  obtain rfl := someE hM
  exact ⟨rfl, hm0.pick [] rfl (by decide)⟩
 ·refine gg 10 rfl ?_
  obtain ⟨j1, hj1, hM⟩ := jnE hM
  refine Rn.joinG (r := r) (G := (List UInt8)) (fun g => [(3, Str (g))]) (fun g w' => Hp Z0 No w w' []) (fun g => j1 g) ?_ ?_
  ·subst hj1
   clear hM
   rintro y4 w5 hm5 hM
   try dsimp only at hM
   refine gg 3 rfl ?_
   obtain ⟨z6, e6, hM⟩ := bindE hM
   refine Rn.q rfl (V.catZ rfl rfl e6) (gg 2 rfl ?_)
   refine Rn.retG1 Tryz.func9 rfl (rvT rfl) ?_
   obtain rfl := someE hM
   exact ⟨rfl, hm5.pick [] rfl (by decide)⟩
  intro hk1
  clear hj1
  refine gg 1 rfl ?_
  refine Rn.loopF (G := Int × (List UInt8) × Int) (fun g => [(0, iv (g.1)), (3, Str ((g.2.1))), (4, iv (g.2.2))]) (fun g w' => Hp Z0 No w w' []) (fun n g => m_limnographref22_Name_L1 j1 n g.1 g.2.1 g.2.2) fuel (x0, ([] : List UInt8), 0) (sb ⟨rfl, rfl, rfl, trivial⟩) (hm0.pick [] rfl (by decide)) hM (fun _ => rfl) ?_
  clear hM
  rintro m10 ⟨y7, y8, y9⟩ w10 hm10 hM hn10
  replace hM : m_limnographref22_Name_L1 j1 (m10 + 1) y7 y8 y9 = some r := hM
  rw [m_limnographref22_Name_L1] at hM
  refine gg 6 rfl ?_
  refine askD hM (Rn.condD rfl) (fun h11 hM => ?_) (fun h11 hM => ?_)
  ·refine gg 6 rfl ?_
   obtain ⟨z12, e12, hM⟩ := bindE hM
   refine Rn.q rfl (V.remZ rfl rfl e12) (gg 1 rfl (Rn.q rfl (V.cv8 Tryz.underlying3 Tryz.underlying5 rfl) (Rn.bslS rfl rfl rfl Tryz.underlying51 el5 rfl rfl rfl rfl (by first | exact szs rfl | (simp [Value.cells]; done)) (by decide) ?_)))
   intro b13 w13 hb13 m13 e13
   have hm14 := hm10.addLit (rep := byteR) (xs := ([toU8 (W64 (48 + z12))] : List UInt8)) (vss := [[u8v (toU8 (W64 (48 + z12)))]]) hb13 e13 m13 rfl rfl rfl ((rels_cons (fun _ _ => ⟨rfl, trivial⟩) rels0))
   refine Rn.q rfl (V.b2s Tryz.underlying51 Tryz.underlying9 Tryz.underlying5 rfl rfl (Own.sl (hm14.get 0 rfl))) (gg 1 rfl ?_)
   obtain ⟨z16, e16, hM⟩ := bindE hM
   refine Rn.q rfl (V.catZ rfl rfl e16) (gg 4 rfl ?_)
   obtain ⟨z17, e17, hM⟩ := bindE hM
   refine Rn.q rfl (V.quoZ rfl rfl e17) (gg 8 rfl ?_)
   exact hn10 (z17, z16, (W64 (y9 + 1))) _ _ (sb ⟨rfl, rfl, rfl, trivial⟩) (hm14.pick [] rfl (by decide)) hM
  ·refine gg 1 rfl ?_
   exact hk1 y8 _ _ (sb ⟨rfl, trivial⟩) (hm10.pick [] rfl (by decide)) hM

theorem m_limnographlaw22_StoreNames_sim {Z0 : Nat → Prop} {w : World} {x0 : Int} {x1 : Int} {r : Bool} (hM : m_limnographlaw22_StoreNames x0 x1 = some r)  :
    Calls Tryz.prog 3 #[iv x0, iv x1] w fun x w' => x = .returned (.bool (r)) ∧ Hp Z0 No w w' [] := by
 have hm0 := Hp.nil Z0 No w
 have hc0 := Calm.nil
 refine Rn.enter Tryz.func3 rfl rfl (Nat.le_of_ble_eq_true rfl) ?_
 refine gg 7 rfl ?_
 obtain ⟨p1, e1, hM⟩ := bindE hM
 refine Rn.cl ck7 rfl rfl rfl rfl (m_limnographlaw22_awake_sim (Z0 := All) e1  :) ?_
 rintro _ w1 ⟨rfl, hq1⟩
 refine ⟨_, rfl, ?_⟩
 have hm2 := hm0.call0 hq1
 refine Rn.q rfl (V.notB rfl) (gg 1 rfl ?_)
 refine askS hM (Rn.condS rfl) (fun h3 hM => ?_) (fun h3 hM => ?_)
 ·refine gg 4 rfl ?_
  refine Rn.retG1 Tryz.func3 rfl (rvT rfl) ?_
  obtain rfl := someE hM
  exact ⟨rfl, hm2.pick [] rfl (by decide)⟩
 ·refine gg 4 rfl ?_
  obtain ⟨p4, e4, hM⟩ := bindE hM
  refine Rn.cl ck8 rfl rfl rfl rfl (m_store_Name_sim (Z0 := All) e4  :) ?_
  rintro _ w4 ⟨rfl, hq4⟩
  refine ⟨_, rfl, ?_⟩
  have hm5 := hm2.call0 hq4
  refine gg 1 rfl ?_
  obtain ⟨p6, e6, hM⟩ := bindE hM
  refine Rn.cl ck8 rfl rfl rfl rfl (m_store_Name_sim (Z0 := All) e6  :) ?_
  rintro _ w6 ⟨rfl, hq6⟩
  refine ⟨_, rfl, ?_⟩
  have hm7 := hm5.call0 hq6
  refine gg 8 rfl ?_
  obtain ⟨p8, e8, hM⟩ := bindE hM
  refine Rn.cl ck9 rfl rfl rfl rfl (m_limnographref22_Name_sim (Z0 := All) e8  :) ?_
  rintro _ w8 ⟨rfl, hq8⟩
  refine ⟨_, rfl, ?_⟩
  have hm9 := hm7.call0 hq8
  refine Rn.q rfl (V.neqS rfl rfl) (gg 1 rfl ?_)
  obtain ⟨j1, hj1, hM⟩ := jnE hM
  refine Rn.joinR (r := r) (G := Bool) [] (fun g => [(0, iv x0), (1, iv x1), (5, Str (p4)), (6, Str (p6)), (22, .bool (g))]) (fun g w' => Hp Z0 No w w' []) (fun g => j1 g) ?_ ?_
  ·subst hj1
   clear hM
   rintro y10 w11 hm11 hM
   try dsimp only at hM
   refine gg 1 rfl ?_
   refine askS hM (Rn.condS rfl) (fun h12 hM => ?_) (fun h12 hM => ?_)
   ·refine gg 4 rfl ?_
    refine Rn.retG1 Tryz.func3 rfl (rvT rfl) ?_
    obtain rfl := someE hM
    exact ⟨rfl, hm11.pick [] rfl (by decide)⟩
   ·refine gg 4 rfl (Rn.q rfl (V.eqlS rfl rfl) (gg 1 rfl ?_))
    refine Rn.cutR [6, 7, 8, 9, 10, 11, 12, 13, 14, 15] [(0, iv x0), (1, iv x1), (5, Str (p4)), (6, Str (p6)), (28, .bool (decide ((p4 = ([] : List UInt8)) ∨ (p6 = ([] : List UInt8)))))] (fun hk13 => ?_) ?_
    ·refine Rn.partD (t := 25) rfl (fun h14 => ?_) (fun h14 => ?_)
     ·refine gg 3 rfl ?_
      refine hk13 _ ?_
      exact Sub.cons rfl (Sub.cons rfl (Sub.cons rfl (Sub.cons rfl (Sub.cons (lkB rfl) (Sub.nil _)))))
     ·refine gg 1 rfl (Rn.q rfl (V.eqlS rfl rfl) (gg 1 rfl ?_))
      refine hk13 _ ?_
      exact Sub.cons rfl (Sub.cons rfl (Sub.cons rfl (Sub.cons rfl (Sub.cons (lkB rfl) (Sub.nil _)))))
    refine gg 1 rfl ?_
    refine Rn.cutR [15] [(37, .bool (decide (((p4 = ([] : List UInt8)) ∨ (p6 = ([] : List UInt8))) ∨ (Op.bytesLess p4 p6 = decide (x0 < x1)))))] (fun hk15 => ?_) ?_
    ·refine Rn.partD (t := 29) rfl (fun h16 => ?_) (fun h16 => ?_)
     ·refine gg 8 rfl ?_
      refine hk15 _ ?_
      exact Sub.cons (lkB rfl) (Sub.nil _)
     ·refine gg 2 rfl (Rn.q rfl (V.lssS rfl rfl) (gg 3 rfl (Rn.q rfl (V.eqlB Tryz.underlying4 rfl rfl) (gg 1 rfl ?_))))
      refine hk15 _ ?_
      exact Sub.cons (lkB rfl) (Sub.nil _)
    refine gg 2 rfl ?_
    refine Rn.retG1 Tryz.func3 rfl (rvT rfl) ?_
    obtain rfl := someE hM
    exact ⟨rfl, hm11.pick [] rfl (by decide)⟩
  intro hk1
  clear hj1
  refine askD hM (Rn.partD (t := 17) rfl) (fun h17 hM => ?_) (fun h17 hM => ?_)
  ·refine gg 5 rfl ?_
   exact hk1 true _ _ (sb ⟨rfl, rfl, rfl, rfl, rfl, trivial⟩) (hm9.pick [] rfl (by decide)) hM
  ·refine gg 2 rfl ?_
   obtain ⟨p18, e18, hM⟩ := bindE hM
   refine Rn.cl ck9 rfl rfl rfl rfl (m_limnographref22_Name_sim (Z0 := All) e18  :) ?_
   rintro _ w18 ⟨rfl, hq18⟩
   refine ⟨_, rfl, ?_⟩
   have hm19 := hm9.call0 hq18
   refine Rn.q rfl (V.neqS rfl rfl) (gg 1 rfl ?_)
   exact hk1 (decide (p6 ≠ p18)) _ _ (sb ⟨rfl, rfl, rfl, rfl, rfl, trivial⟩) (hm19.pick [] rfl (by decide)) hM

end Go.Proofs.YtlfppodekihcmaaGreatDoor
