import Derived.Test.YtigdoooikfgdfaaDoorM11
import Derived.Shelf.Strconv.Itoa3
import Derived.Shelf.Strconv.Atoi
import Derived.Shelf.Strings.Search2
import Derived.Shelf.LaysM
import Derived.Test.YtigdoooikfgdfaaDoorM10

set_option linter.unusedVariables false
set_option linter.unusedSimpArgs false

section
namespace Go.Proofs.YtigdoooikfgdfaaDoor
open Go.RowKit
set_option linter.unusedVariables false
set_option linter.unusedSimpArgs false

def k_tcard : Nat := 6
def sg_tcard : Sig := ⟨[(false, [.int .i64])], [(true, [.int .i64, .int .i64] ++ [.bool] ++ List.replicate 9 (.int .i64) ++ [.list 47]), (false, [.err])], false, true, true, false, false⟩
def tr_tcard : Tree := (.ite (.or (.cmp .lt (.var 0) (.int .i64 0)) (.cmp .ge (.var 0) (.int .i64 120))) (.ret [(.int .i64 0), (.int .i64 0), (.bool false), (.int .i64 0), (.int .i64 0), (.int .i64 0), (.int .i64 0), (.int .i64 0), (.int .i64 0), (.int .i64 0), (.int .i64 0), (.int .i64 0), (.nil 47), (.ifc (.int .i64 4))]) (.ite (.cmp .lt (.var 0) (.int .i64 10)) (.call k_tsource [(.var 0)] [(.int .i64), (.int .i64), .bool, (.int .i64), (.int .i64), (.int .i64), (.int .i64), (.int .i64), (.int .i64), (.int .i64), (.int .i64), (.int .i64), (.list 47)] (.ret [(.var 1), (.var 2), (.var 3), (.var 4), (.var 5), (.var 6), (.var 7), (.var 8), (.var 9), (.var 10), (.var 11), (.var 12), (.var 13), .nili])) (.ite (.cmp .lt (.var 0) (.int .i64 50)) (.call k_tbeast [(.ar .sub .i64 (.var 0) (.int .i64 10))] [(.int .i64), (.int .i64), .bool, (.int .i64), (.int .i64), (.int .i64), (.int .i64), (.int .i64), (.int .i64), (.int .i64), (.int .i64), (.int .i64), (.list 47)] (.ret [(.var 1), (.var 2), (.var 3), (.var 4), (.var 5), (.var 6), (.var 7), (.var 8), (.var 9), (.var 10), (.var 11), (.var 12), (.var 13), .nili])) (.ite (.cmp .lt (.var 0) (.int .i64 80)) (.call k_tcost [(.ar .rem .i64 (.ar .sub .i64 (.var 0) (.int .i64 50)) (.int .i64 5)), (.int .i64 1), (.ar .quo .i64 (.ar .sub .i64 (.var 0) (.int .i64 50)) (.int .i64 5))] [(.int .i64), (.int .i64), (.int .i64), (.int .i64), (.int .i64), (.int .i64)] (.call k_tws [] [(.int .i64), (.int .i64), (.int .i64), (.int .i64), (.int .i64), (.int .i64), (.int .i64), .bool, (.int .i64), (.int .i64), (.int .i64), (.int .i64), (.int .i64), (.list 45), (.int .i64), (.int .i64), (.int .i64), (.int .i64), (.int .i64), (.int .i64), (.int .i64), .bool, (.int .i64), (.int .i64), (.int .i64), (.int .i64), (.int .i64), (.list 45), (.int .i64), (.int .i64), (.int .i64), (.int .i64), (.int .i64), (.int .i64), (.int .i64), .bool, (.int .i64), (.int .i64), (.int .i64), (.int .i64), (.int .i64), (.list 45), (.int .i64), (.int .i64), (.int .i64), (.int .i64), (.int .i64), (.int .i64), (.int .i64), .bool, (.int .i64), (.int .i64), (.int .i64), (.int .i64), (.int .i64), (.list 45), (.int .i64), (.int .i64), (.int .i64), (.int .i64), (.int .i64), (.int .i64), (.int .i64), .bool, (.int .i64), (.int .i64), (.int .i64), (.int .i64), (.int .i64), (.list 45), (.int .i64), (.int .i64), (.int .i64), (.int .i64), (.int .i64), (.int .i64), (.int .i64), .bool, (.int .i64), (.int .i64), (.int .i64), (.int .i64), (.int .i64), (.list 45)] (.call k_tus [] [(.int .i64), (.int .i64), (.int .i64), (.int .i64), (.int .i64), (.int .i64), (.int .i64), .bool, (.int .i64), (.int .i64), (.int .i64), (.int .i64), (.int .i64), (.list 45), (.int .i64), (.int .i64), (.int .i64), (.int .i64), (.int .i64), (.int .i64), (.int .i64), .bool, (.int .i64), (.int .i64), (.int .i64), (.int .i64), (.int .i64), (.list 45), (.int .i64), (.int .i64), (.int .i64), (.int .i64), (.int .i64), (.int .i64), (.int .i64), .bool, (.int .i64), (.int .i64), (.int .i64), (.int .i64), (.int .i64), (.list 45), (.int .i64), (.int .i64), (.int .i64), (.int .i64), (.int .i64), (.int .i64), (.int .i64), .bool, (.int .i64), (.int .i64), (.int .i64), (.int .i64), (.int .i64), (.list 45), (.int .i64), (.int .i64), (.int .i64), (.int .i64), (.int .i64), (.int .i64), (.int .i64), .bool, (.int .i64), (.int .i64), (.int .i64), (.int .i64), (.int .i64), (.list 45), (.int .i64), (.int .i64), (.int .i64), (.int .i64), (.int .i64), (.int .i64), (.int .i64), .bool, (.int .i64), (.int .i64), (.int .i64), (.int .i64), (.int .i64), (.list 45)] (.call k_tbs [] [(.int .i64), (.int .i64), (.int .i64), (.int .i64), (.int .i64), (.int .i64), (.int .i64), .bool, (.int .i64), (.int .i64), (.int .i64), (.int .i64), (.int .i64), (.list 45), (.int .i64), (.int .i64), (.int .i64), (.int .i64), (.int .i64), (.int .i64), (.int .i64), .bool, (.int .i64), (.int .i64), (.int .i64), (.int .i64), (.int .i64), (.list 45), (.int .i64), (.int .i64), (.int .i64), (.int .i64), (.int .i64), (.int .i64), (.int .i64), .bool, (.int .i64), (.int .i64), (.int .i64), (.int .i64), (.int .i64), (.list 45), (.int .i64), (.int .i64), (.int .i64), (.int .i64), (.int .i64), (.int .i64), (.int .i64), .bool, (.int .i64), (.int .i64), (.int .i64), (.int .i64), (.int .i64), (.list 45), (.int .i64), (.int .i64), (.int .i64), (.int .i64), (.int .i64), (.int .i64), (.int .i64), .bool, (.int .i64), (.int .i64), (.int .i64), (.int .i64), (.int .i64), (.list 45), (.int .i64), (.int .i64), (.int .i64), (.int .i64), (.int .i64), (.int .i64), (.int .i64), .bool, (.int .i64), (.int .i64), (.int .i64), (.int .i64), (.int .i64), (.list 45)] (.call k_trs [] [(.int .i64), (.int .i64), (.int .i64), (.int .i64), (.int .i64), (.int .i64), (.int .i64), .bool, (.int .i64), (.int .i64), (.int .i64), (.int .i64), (.int .i64), (.list 45), (.int .i64), (.int .i64), (.int .i64), (.int .i64), (.int .i64), (.int .i64), (.int .i64), .bool, (.int .i64), (.int .i64), (.int .i64), (.int .i64), (.int .i64), (.list 45), (.int .i64), (.int .i64), (.int .i64), (.int .i64), (.int .i64), (.int .i64), (.int .i64), .bool, (.int .i64), (.int .i64), (.int .i64), (.int .i64), (.int .i64), (.list 45), (.int .i64), (.int .i64), (.int .i64), (.int .i64), (.int .i64), (.int .i64), (.int .i64), .bool, (.int .i64), (.int .i64), (.int .i64), (.int .i64), (.int .i64), (.list 45), (.int .i64), (.int .i64), (.int .i64), (.int .i64), (.int .i64), (.int .i64), (.int .i64), .bool, (.int .i64), (.int .i64), (.int .i64), (.int .i64), (.int .i64), (.list 45), (.int .i64), (.int .i64), (.int .i64), (.int .i64), (.int .i64), (.int .i64), (.int .i64), .bool, (.int .i64), (.int .i64), (.int .i64), (.int .i64), (.int .i64), (.list 45)] (.call k_tgs [] [(.int .i64), (.int .i64), (.int .i64), (.int .i64), (.int .i64), (.int .i64), (.int .i64), .bool, (.int .i64), (.int .i64), (.int .i64), (.int .i64), (.int .i64), (.list 45), (.int .i64), (.int .i64), (.int .i64), (.int .i64), (.int .i64), (.int .i64), (.int .i64), .bool, (.int .i64), (.int .i64), (.int .i64), (.int .i64), (.int .i64), (.list 45), (.int .i64), (.int .i64), (.int .i64), (.int .i64), (.int .i64), (.int .i64), (.int .i64), .bool, (.int .i64), (.int .i64), (.int .i64), (.int .i64), (.int .i64), (.list 45), (.int .i64), (.int .i64), (.int .i64), (.int .i64), (.int .i64), (.int .i64), (.int .i64), .bool, (.int .i64), (.int .i64), (.int .i64), (.int .i64), (.int .i64), (.list 45), (.int .i64), (.int .i64), (.int .i64), (.int .i64), (.int .i64), (.int .i64), (.int .i64), .bool, (.int .i64), (.int .i64), (.int .i64), (.int .i64), (.int .i64), (.list 45), (.int .i64), (.int .i64), (.int .i64), (.int .i64), (.int .i64), (.int .i64), (.int .i64), .bool, (.int .i64), (.int .i64), (.int .i64), (.int .i64), (.int .i64), (.list 45)] (.ob (.cmp .ge (.ar .rem .i64 (.ar .sub .i64 (.var 0) (.int .i64 50)) (.int .i64 5)) (.int .i64 0)) (.ob (.cmp .lt (.ar .rem .i64 (.ar .sub .i64 (.var 0) (.int .i64 50)) (.int .i64 5)) (.int .i64 5)) (.ob (.cmp .ge (.ar .quo .i64 (.ar .sub .i64 (.var 0) (.int .i64 50)) (.int .i64 5)) (.int .i64 0)) (.ob (.cmp .lt (.ar .quo .i64 (.ar .sub .i64 (.var 0) (.int .i64 50)) (.int .i64 5)) (.int .i64 6)) (.share 47 (.push .emp (.econs (.sel (.econs (.sel (.econs (.var 7) (.econs (.var 91) (.econs (.var 175) (.econs (.var 259) (.econs (.var 343) .enil))))) (.ar .rem .i64 (.ar .sub .i64 (.var 0) (.int .i64 50)) (.int .i64 5)) (.int .i64)) (.econs (.sel (.econs (.var 21) (.econs (.var 105) (.econs (.var 189) (.econs (.var 273) (.econs (.var 357) .enil))))) (.ar .rem .i64 (.ar .sub .i64 (.var 0) (.int .i64 50)) (.int .i64 5)) (.int .i64)) (.econs (.sel (.econs (.var 35) (.econs (.var 119) (.econs (.var 203) (.econs (.var 287) (.econs (.var 371) .enil))))) (.ar .rem .i64 (.ar .sub .i64 (.var 0) (.int .i64 50)) (.int .i64 5)) (.int .i64)) (.econs (.sel (.econs (.var 49) (.econs (.var 133) (.econs (.var 217) (.econs (.var 301) (.econs (.var 385) .enil))))) (.ar .rem .i64 (.ar .sub .i64 (.var 0) (.int .i64 50)) (.int .i64 5)) (.int .i64)) (.econs (.sel (.econs (.var 63) (.econs (.var 147) (.econs (.var 231) (.econs (.var 315) (.econs (.var 399) .enil))))) (.ar .rem .i64 (.ar .sub .i64 (.var 0) (.int .i64 50)) (.int .i64 5)) (.int .i64)) (.econs (.sel (.econs (.var 77) (.econs (.var 161) (.econs (.var 245) (.econs (.var 329) (.econs (.var 413) .enil))))) (.ar .rem .i64 (.ar .sub .i64 (.var 0) (.int .i64 50)) (.int .i64 5)) (.int .i64)) .enil)))))) (.ar .quo .i64 (.ar .sub .i64 (.var 0) (.int .i64 50)) (.int .i64 5)) (.int .i64)) (.econs (.sel (.econs (.sel (.econs (.var 8) (.econs (.var 92) (.econs (.var 176) (.econs (.var 260) (.econs (.var 344) .enil))))) (.ar .rem .i64 (.ar .sub .i64 (.var 0) (.int .i64 50)) (.int .i64 5)) (.int .i64)) (.econs (.sel (.econs (.var 22) (.econs (.var 106) (.econs (.var 190) (.econs (.var 274) (.econs (.var 358) .enil))))) (.ar .rem .i64 (.ar .sub .i64 (.var 0) (.int .i64 50)) (.int .i64 5)) (.int .i64)) (.econs (.sel (.econs (.var 36) (.econs (.var 120) (.econs (.var 204) (.econs (.var 288) (.econs (.var 372) .enil))))) (.ar .rem .i64 (.ar .sub .i64 (.var 0) (.int .i64 50)) (.int .i64 5)) (.int .i64)) (.econs (.sel (.econs (.var 50) (.econs (.var 134) (.econs (.var 218) (.econs (.var 302) (.econs (.var 386) .enil))))) (.ar .rem .i64 (.ar .sub .i64 (.var 0) (.int .i64 50)) (.int .i64 5)) (.int .i64)) (.econs (.sel (.econs (.var 64) (.econs (.var 148) (.econs (.var 232) (.econs (.var 316) (.econs (.var 400) .enil))))) (.ar .rem .i64 (.ar .sub .i64 (.var 0) (.int .i64 50)) (.int .i64 5)) (.int .i64)) (.econs (.sel (.econs (.var 78) (.econs (.var 162) (.econs (.var 246) (.econs (.var 330) (.econs (.var 414) .enil))))) (.ar .rem .i64 (.ar .sub .i64 (.var 0) (.int .i64 50)) (.int .i64 5)) (.int .i64)) .enil)))))) (.ar .quo .i64 (.ar .sub .i64 (.var 0) (.int .i64 50)) (.int .i64 5)) (.int .i64)) (.econs (.sel (.econs (.sel (.econs (.var 9) (.econs (.var 93) (.econs (.var 177) (.econs (.var 261) (.econs (.var 345) .enil))))) (.ar .rem .i64 (.ar .sub .i64 (.var 0) (.int .i64 50)) (.int .i64 5)) (.int .i64)) (.econs (.sel (.econs (.var 23) (.econs (.var 107) (.econs (.var 191) (.econs (.var 275) (.econs (.var 359) .enil))))) (.ar .rem .i64 (.ar .sub .i64 (.var 0) (.int .i64 50)) (.int .i64 5)) (.int .i64)) (.econs (.sel (.econs (.var 37) (.econs (.var 121) (.econs (.var 205) (.econs (.var 289) (.econs (.var 373) .enil))))) (.ar .rem .i64 (.ar .sub .i64 (.var 0) (.int .i64 50)) (.int .i64 5)) (.int .i64)) (.econs (.sel (.econs (.var 51) (.econs (.var 135) (.econs (.var 219) (.econs (.var 303) (.econs (.var 387) .enil))))) (.ar .rem .i64 (.ar .sub .i64 (.var 0) (.int .i64 50)) (.int .i64 5)) (.int .i64)) (.econs (.sel (.econs (.var 65) (.econs (.var 149) (.econs (.var 233) (.econs (.var 317) (.econs (.var 401) .enil))))) (.ar .rem .i64 (.ar .sub .i64 (.var 0) (.int .i64 50)) (.int .i64 5)) (.int .i64)) (.econs (.sel (.econs (.var 79) (.econs (.var 163) (.econs (.var 247) (.econs (.var 331) (.econs (.var 415) .enil))))) (.ar .rem .i64 (.ar .sub .i64 (.var 0) (.int .i64 50)) (.int .i64 5)) (.int .i64)) .enil)))))) (.ar .quo .i64 (.ar .sub .i64 (.var 0) (.int .i64 50)) (.int .i64 5)) (.int .i64)) (.econs (.sel (.econs (.sel (.econs (.var 10) (.econs (.var 94) (.econs (.var 178) (.econs (.var 262) (.econs (.var 346) .enil))))) (.ar .rem .i64 (.ar .sub .i64 (.var 0) (.int .i64 50)) (.int .i64 5)) (.int .i64)) (.econs (.sel (.econs (.var 24) (.econs (.var 108) (.econs (.var 192) (.econs (.var 276) (.econs (.var 360) .enil))))) (.ar .rem .i64 (.ar .sub .i64 (.var 0) (.int .i64 50)) (.int .i64 5)) (.int .i64)) (.econs (.sel (.econs (.var 38) (.econs (.var 122) (.econs (.var 206) (.econs (.var 290) (.econs (.var 374) .enil))))) (.ar .rem .i64 (.ar .sub .i64 (.var 0) (.int .i64 50)) (.int .i64 5)) (.int .i64)) (.econs (.sel (.econs (.var 52) (.econs (.var 136) (.econs (.var 220) (.econs (.var 304) (.econs (.var 388) .enil))))) (.ar .rem .i64 (.ar .sub .i64 (.var 0) (.int .i64 50)) (.int .i64 5)) (.int .i64)) (.econs (.sel (.econs (.var 66) (.econs (.var 150) (.econs (.var 234) (.econs (.var 318) (.econs (.var 402) .enil))))) (.ar .rem .i64 (.ar .sub .i64 (.var 0) (.int .i64 50)) (.int .i64 5)) (.int .i64)) (.econs (.sel (.econs (.var 80) (.econs (.var 164) (.econs (.var 248) (.econs (.var 332) (.econs (.var 416) .enil))))) (.ar .rem .i64 (.ar .sub .i64 (.var 0) (.int .i64 50)) (.int .i64 5)) (.int .i64)) .enil)))))) (.ar .quo .i64 (.ar .sub .i64 (.var 0) (.int .i64 50)) (.int .i64 5)) (.int .i64)) (.econs (.sel (.econs (.sel (.econs (.var 11) (.econs (.var 95) (.econs (.var 179) (.econs (.var 263) (.econs (.var 347) .enil))))) (.ar .rem .i64 (.ar .sub .i64 (.var 0) (.int .i64 50)) (.int .i64 5)) (.int .i64)) (.econs (.sel (.econs (.var 25) (.econs (.var 109) (.econs (.var 193) (.econs (.var 277) (.econs (.var 361) .enil))))) (.ar .rem .i64 (.ar .sub .i64 (.var 0) (.int .i64 50)) (.int .i64 5)) (.int .i64)) (.econs (.sel (.econs (.var 39) (.econs (.var 123) (.econs (.var 207) (.econs (.var 291) (.econs (.var 375) .enil))))) (.ar .rem .i64 (.ar .sub .i64 (.var 0) (.int .i64 50)) (.int .i64 5)) (.int .i64)) (.econs (.sel (.econs (.var 53) (.econs (.var 137) (.econs (.var 221) (.econs (.var 305) (.econs (.var 389) .enil))))) (.ar .rem .i64 (.ar .sub .i64 (.var 0) (.int .i64 50)) (.int .i64 5)) (.int .i64)) (.econs (.sel (.econs (.var 67) (.econs (.var 151) (.econs (.var 235) (.econs (.var 319) (.econs (.var 403) .enil))))) (.ar .rem .i64 (.ar .sub .i64 (.var 0) (.int .i64 50)) (.int .i64 5)) (.int .i64)) (.econs (.sel (.econs (.var 81) (.econs (.var 165) (.econs (.var 249) (.econs (.var 333) (.econs (.var 417) .enil))))) (.ar .rem .i64 (.ar .sub .i64 (.var 0) (.int .i64 50)) (.int .i64 5)) (.int .i64)) .enil)))))) (.ar .quo .i64 (.ar .sub .i64 (.var 0) (.int .i64 50)) (.int .i64 5)) (.int .i64)) (.econs (.sel (.econs (.sel (.econs (.var 12) (.econs (.var 96) (.econs (.var 180) (.econs (.var 264) (.econs (.var 348) .enil))))) (.ar .rem .i64 (.ar .sub .i64 (.var 0) (.int .i64 50)) (.int .i64 5)) (.int .i64)) (.econs (.sel (.econs (.var 26) (.econs (.var 110) (.econs (.var 194) (.econs (.var 278) (.econs (.var 362) .enil))))) (.ar .rem .i64 (.ar .sub .i64 (.var 0) (.int .i64 50)) (.int .i64 5)) (.int .i64)) (.econs (.sel (.econs (.var 40) (.econs (.var 124) (.econs (.var 208) (.econs (.var 292) (.econs (.var 376) .enil))))) (.ar .rem .i64 (.ar .sub .i64 (.var 0) (.int .i64 50)) (.int .i64 5)) (.int .i64)) (.econs (.sel (.econs (.var 54) (.econs (.var 138) (.econs (.var 222) (.econs (.var 306) (.econs (.var 390) .enil))))) (.ar .rem .i64 (.ar .sub .i64 (.var 0) (.int .i64 50)) (.int .i64 5)) (.int .i64)) (.econs (.sel (.econs (.var 68) (.econs (.var 152) (.econs (.var 236) (.econs (.var 320) (.econs (.var 404) .enil))))) (.ar .rem .i64 (.ar .sub .i64 (.var 0) (.int .i64 50)) (.int .i64 5)) (.int .i64)) (.econs (.sel (.econs (.var 82) (.econs (.var 166) (.econs (.var 250) (.econs (.var 334) (.econs (.var 418) .enil))))) (.ar .rem .i64 (.ar .sub .i64 (.var 0) (.int .i64 50)) (.int .i64 5)) (.int .i64)) .enil)))))) (.ar .quo .i64 (.ar .sub .i64 (.var 0) (.int .i64 50)) (.int .i64 5)) (.int .i64)) (.econs (.sel (.econs (.sel (.econs (.var 13) (.econs (.var 97) (.econs (.var 181) (.econs (.var 265) (.econs (.var 349) .enil))))) (.ar .rem .i64 (.ar .sub .i64 (.var 0) (.int .i64 50)) (.int .i64 5)) (.int .i64)) (.econs (.sel (.econs (.var 27) (.econs (.var 111) (.econs (.var 195) (.econs (.var 279) (.econs (.var 363) .enil))))) (.ar .rem .i64 (.ar .sub .i64 (.var 0) (.int .i64 50)) (.int .i64 5)) (.int .i64)) (.econs (.sel (.econs (.var 41) (.econs (.var 125) (.econs (.var 209) (.econs (.var 293) (.econs (.var 377) .enil))))) (.ar .rem .i64 (.ar .sub .i64 (.var 0) (.int .i64 50)) (.int .i64 5)) (.int .i64)) (.econs (.sel (.econs (.var 55) (.econs (.var 139) (.econs (.var 223) (.econs (.var 307) (.econs (.var 391) .enil))))) (.ar .rem .i64 (.ar .sub .i64 (.var 0) (.int .i64 50)) (.int .i64 5)) (.int .i64)) (.econs (.sel (.econs (.var 69) (.econs (.var 153) (.econs (.var 237) (.econs (.var 321) (.econs (.var 405) .enil))))) (.ar .rem .i64 (.ar .sub .i64 (.var 0) (.int .i64 50)) (.int .i64 5)) (.int .i64)) (.econs (.sel (.econs (.var 83) (.econs (.var 167) (.econs (.var 251) (.econs (.var 335) (.econs (.var 419) .enil))))) (.ar .rem .i64 (.ar .sub .i64 (.var 0) (.int .i64 50)) (.int .i64 5)) (.int .i64)) .enil)))))) (.ar .quo .i64 (.ar .sub .i64 (.var 0) (.int .i64 50)) (.int .i64 5)) (.int .i64)) (.econs (.sel (.econs (.sel (.econs (.var 14) (.econs (.var 98) (.econs (.var 182) (.econs (.var 266) (.econs (.var 350) .enil))))) (.ar .rem .i64 (.ar .sub .i64 (.var 0) (.int .i64 50)) (.int .i64 5)) .bool) (.econs (.sel (.econs (.var 28) (.econs (.var 112) (.econs (.var 196) (.econs (.var 280) (.econs (.var 364) .enil))))) (.ar .rem .i64 (.ar .sub .i64 (.var 0) (.int .i64 50)) (.int .i64 5)) .bool) (.econs (.sel (.econs (.var 42) (.econs (.var 126) (.econs (.var 210) (.econs (.var 294) (.econs (.var 378) .enil))))) (.ar .rem .i64 (.ar .sub .i64 (.var 0) (.int .i64 50)) (.int .i64 5)) .bool) (.econs (.sel (.econs (.var 56) (.econs (.var 140) (.econs (.var 224) (.econs (.var 308) (.econs (.var 392) .enil))))) (.ar .rem .i64 (.ar .sub .i64 (.var 0) (.int .i64 50)) (.int .i64 5)) .bool) (.econs (.sel (.econs (.var 70) (.econs (.var 154) (.econs (.var 238) (.econs (.var 322) (.econs (.var 406) .enil))))) (.ar .rem .i64 (.ar .sub .i64 (.var 0) (.int .i64 50)) (.int .i64 5)) .bool) (.econs (.sel (.econs (.var 84) (.econs (.var 168) (.econs (.var 252) (.econs (.var 336) (.econs (.var 420) .enil))))) (.ar .rem .i64 (.ar .sub .i64 (.var 0) (.int .i64 50)) (.int .i64 5)) .bool) .enil)))))) (.ar .quo .i64 (.ar .sub .i64 (.var 0) (.int .i64 50)) (.int .i64 5)) .bool) (.econs (.sel (.econs (.sel (.econs (.var 15) (.econs (.var 99) (.econs (.var 183) (.econs (.var 267) (.econs (.var 351) .enil))))) (.ar .rem .i64 (.ar .sub .i64 (.var 0) (.int .i64 50)) (.int .i64 5)) (.int .i64)) (.econs (.sel (.econs (.var 29) (.econs (.var 113) (.econs (.var 197) (.econs (.var 281) (.econs (.var 365) .enil))))) (.ar .rem .i64 (.ar .sub .i64 (.var 0) (.int .i64 50)) (.int .i64 5)) (.int .i64)) (.econs (.sel (.econs (.var 43) (.econs (.var 127) (.econs (.var 211) (.econs (.var 295) (.econs (.var 379) .enil))))) (.ar .rem .i64 (.ar .sub .i64 (.var 0) (.int .i64 50)) (.int .i64 5)) (.int .i64)) (.econs (.sel (.econs (.var 57) (.econs (.var 141) (.econs (.var 225) (.econs (.var 309) (.econs (.var 393) .enil))))) (.ar .rem .i64 (.ar .sub .i64 (.var 0) (.int .i64 50)) (.int .i64 5)) (.int .i64)) (.econs (.sel (.econs (.var 71) (.econs (.var 155) (.econs (.var 239) (.econs (.var 323) (.econs (.var 407) .enil))))) (.ar .rem .i64 (.ar .sub .i64 (.var 0) (.int .i64 50)) (.int .i64 5)) (.int .i64)) (.econs (.sel (.econs (.var 85) (.econs (.var 169) (.econs (.var 253) (.econs (.var 337) (.econs (.var 421) .enil))))) (.ar .rem .i64 (.ar .sub .i64 (.var 0) (.int .i64 50)) (.int .i64 5)) (.int .i64)) .enil)))))) (.ar .quo .i64 (.ar .sub .i64 (.var 0) (.int .i64 50)) (.int .i64 5)) (.int .i64)) (.econs (.sel (.econs (.sel (.econs (.var 16) (.econs (.var 100) (.econs (.var 184) (.econs (.var 268) (.econs (.var 352) .enil))))) (.ar .rem .i64 (.ar .sub .i64 (.var 0) (.int .i64 50)) (.int .i64 5)) (.int .i64)) (.econs (.sel (.econs (.var 30) (.econs (.var 114) (.econs (.var 198) (.econs (.var 282) (.econs (.var 366) .enil))))) (.ar .rem .i64 (.ar .sub .i64 (.var 0) (.int .i64 50)) (.int .i64 5)) (.int .i64)) (.econs (.sel (.econs (.var 44) (.econs (.var 128) (.econs (.var 212) (.econs (.var 296) (.econs (.var 380) .enil))))) (.ar .rem .i64 (.ar .sub .i64 (.var 0) (.int .i64 50)) (.int .i64 5)) (.int .i64)) (.econs (.sel (.econs (.var 58) (.econs (.var 142) (.econs (.var 226) (.econs (.var 310) (.econs (.var 394) .enil))))) (.ar .rem .i64 (.ar .sub .i64 (.var 0) (.int .i64 50)) (.int .i64 5)) (.int .i64)) (.econs (.sel (.econs (.var 72) (.econs (.var 156) (.econs (.var 240) (.econs (.var 324) (.econs (.var 408) .enil))))) (.ar .rem .i64 (.ar .sub .i64 (.var 0) (.int .i64 50)) (.int .i64 5)) (.int .i64)) (.econs (.sel (.econs (.var 86) (.econs (.var 170) (.econs (.var 254) (.econs (.var 338) (.econs (.var 422) .enil))))) (.ar .rem .i64 (.ar .sub .i64 (.var 0) (.int .i64 50)) (.int .i64 5)) (.int .i64)) .enil)))))) (.ar .quo .i64 (.ar .sub .i64 (.var 0) (.int .i64 50)) (.int .i64 5)) (.int .i64)) (.econs (.sel (.econs (.sel (.econs (.var 17) (.econs (.var 101) (.econs (.var 185) (.econs (.var 269) (.econs (.var 353) .enil))))) (.ar .rem .i64 (.ar .sub .i64 (.var 0) (.int .i64 50)) (.int .i64 5)) (.int .i64)) (.econs (.sel (.econs (.var 31) (.econs (.var 115) (.econs (.var 199) (.econs (.var 283) (.econs (.var 367) .enil))))) (.ar .rem .i64 (.ar .sub .i64 (.var 0) (.int .i64 50)) (.int .i64 5)) (.int .i64)) (.econs (.sel (.econs (.var 45) (.econs (.var 129) (.econs (.var 213) (.econs (.var 297) (.econs (.var 381) .enil))))) (.ar .rem .i64 (.ar .sub .i64 (.var 0) (.int .i64 50)) (.int .i64 5)) (.int .i64)) (.econs (.sel (.econs (.var 59) (.econs (.var 143) (.econs (.var 227) (.econs (.var 311) (.econs (.var 395) .enil))))) (.ar .rem .i64 (.ar .sub .i64 (.var 0) (.int .i64 50)) (.int .i64 5)) (.int .i64)) (.econs (.sel (.econs (.var 73) (.econs (.var 157) (.econs (.var 241) (.econs (.var 325) (.econs (.var 409) .enil))))) (.ar .rem .i64 (.ar .sub .i64 (.var 0) (.int .i64 50)) (.int .i64 5)) (.int .i64)) (.econs (.sel (.econs (.var 87) (.econs (.var 171) (.econs (.var 255) (.econs (.var 339) (.econs (.var 423) .enil))))) (.ar .rem .i64 (.ar .sub .i64 (.var 0) (.int .i64 50)) (.int .i64 5)) (.int .i64)) .enil)))))) (.ar .quo .i64 (.ar .sub .i64 (.var 0) (.int .i64 50)) (.int .i64 5)) (.int .i64)) (.econs (.sel (.econs (.sel (.econs (.var 18) (.econs (.var 102) (.econs (.var 186) (.econs (.var 270) (.econs (.var 354) .enil))))) (.ar .rem .i64 (.ar .sub .i64 (.var 0) (.int .i64 50)) (.int .i64 5)) (.int .i64)) (.econs (.sel (.econs (.var 32) (.econs (.var 116) (.econs (.var 200) (.econs (.var 284) (.econs (.var 368) .enil))))) (.ar .rem .i64 (.ar .sub .i64 (.var 0) (.int .i64 50)) (.int .i64 5)) (.int .i64)) (.econs (.sel (.econs (.var 46) (.econs (.var 130) (.econs (.var 214) (.econs (.var 298) (.econs (.var 382) .enil))))) (.ar .rem .i64 (.ar .sub .i64 (.var 0) (.int .i64 50)) (.int .i64 5)) (.int .i64)) (.econs (.sel (.econs (.var 60) (.econs (.var 144) (.econs (.var 228) (.econs (.var 312) (.econs (.var 396) .enil))))) (.ar .rem .i64 (.ar .sub .i64 (.var 0) (.int .i64 50)) (.int .i64 5)) (.int .i64)) (.econs (.sel (.econs (.var 74) (.econs (.var 158) (.econs (.var 242) (.econs (.var 326) (.econs (.var 410) .enil))))) (.ar .rem .i64 (.ar .sub .i64 (.var 0) (.int .i64 50)) (.int .i64 5)) (.int .i64)) (.econs (.sel (.econs (.var 88) (.econs (.var 172) (.econs (.var 256) (.econs (.var 340) (.econs (.var 424) .enil))))) (.ar .rem .i64 (.ar .sub .i64 (.var 0) (.int .i64 50)) (.int .i64 5)) (.int .i64)) .enil)))))) (.ar .quo .i64 (.ar .sub .i64 (.var 0) (.int .i64 50)) (.int .i64 5)) (.int .i64)) (.econs (.sel (.econs (.sel (.econs (.var 19) (.econs (.var 103) (.econs (.var 187) (.econs (.var 271) (.econs (.var 355) .enil))))) (.ar .rem .i64 (.ar .sub .i64 (.var 0) (.int .i64 50)) (.int .i64 5)) (.int .i64)) (.econs (.sel (.econs (.var 33) (.econs (.var 117) (.econs (.var 201) (.econs (.var 285) (.econs (.var 369) .enil))))) (.ar .rem .i64 (.ar .sub .i64 (.var 0) (.int .i64 50)) (.int .i64 5)) (.int .i64)) (.econs (.sel (.econs (.var 47) (.econs (.var 131) (.econs (.var 215) (.econs (.var 299) (.econs (.var 383) .enil))))) (.ar .rem .i64 (.ar .sub .i64 (.var 0) (.int .i64 50)) (.int .i64 5)) (.int .i64)) (.econs (.sel (.econs (.var 61) (.econs (.var 145) (.econs (.var 229) (.econs (.var 313) (.econs (.var 397) .enil))))) (.ar .rem .i64 (.ar .sub .i64 (.var 0) (.int .i64 50)) (.int .i64 5)) (.int .i64)) (.econs (.sel (.econs (.var 75) (.econs (.var 159) (.econs (.var 243) (.econs (.var 327) (.econs (.var 411) .enil))))) (.ar .rem .i64 (.ar .sub .i64 (.var 0) (.int .i64 50)) (.int .i64 5)) (.int .i64)) (.econs (.sel (.econs (.var 89) (.econs (.var 173) (.econs (.var 257) (.econs (.var 341) (.econs (.var 425) .enil))))) (.ar .rem .i64 (.ar .sub .i64 (.var 0) (.int .i64 50)) (.int .i64 5)) (.int .i64)) .enil)))))) (.ar .quo .i64 (.ar .sub .i64 (.var 0) (.int .i64 50)) (.int .i64 5)) (.int .i64)) (.econs (.sel (.econs (.sel (.econs (.var 20) (.econs (.var 104) (.econs (.var 188) (.econs (.var 272) (.econs (.var 356) .enil))))) (.ar .rem .i64 (.ar .sub .i64 (.var 0) (.int .i64 50)) (.int .i64 5)) (.list 45)) (.econs (.sel (.econs (.var 34) (.econs (.var 118) (.econs (.var 202) (.econs (.var 286) (.econs (.var 370) .enil))))) (.ar .rem .i64 (.ar .sub .i64 (.var 0) (.int .i64 50)) (.int .i64 5)) (.list 45)) (.econs (.sel (.econs (.var 48) (.econs (.var 132) (.econs (.var 216) (.econs (.var 300) (.econs (.var 384) .enil))))) (.ar .rem .i64 (.ar .sub .i64 (.var 0) (.int .i64 50)) (.int .i64 5)) (.list 45)) (.econs (.sel (.econs (.var 62) (.econs (.var 146) (.econs (.var 230) (.econs (.var 314) (.econs (.var 398) .enil))))) (.ar .rem .i64 (.ar .sub .i64 (.var 0) (.int .i64 50)) (.int .i64 5)) (.list 45)) (.econs (.sel (.econs (.var 76) (.econs (.var 160) (.econs (.var 244) (.econs (.var 328) (.econs (.var 412) .enil))))) (.ar .rem .i64 (.ar .sub .i64 (.var 0) (.int .i64 50)) (.int .i64 5)) (.list 45)) (.econs (.sel (.econs (.var 90) (.econs (.var 174) (.econs (.var 258) (.econs (.var 342) (.econs (.var 426) .enil))))) (.ar .rem .i64 (.ar .sub .i64 (.var 0) (.int .i64 50)) (.int .i64 5)) (.list 45)) .enil)))))) (.ar .quo .i64 (.ar .sub .i64 (.var 0) (.int .i64 50)) (.int .i64 5)) (.list 45)) .enil))))))))))))))) (.ret [(.int .i64 2), (.ar .rem .i64 (.ar .sub .i64 (.var 0) (.int .i64 50)) (.int .i64 5)), (.cmp .eq (.ar .rem .i64 (.ar .quo .i64 (.ar .sub .i64 (.var 0) (.int .i64 50)) (.int .i64 5)) (.int .i64 2)) (.int .i64 0)), (.var 1), (.var 2), (.var 3), (.var 4), (.var 5), (.var 6), (.int .i64 0), (.int .i64 0), (.int .i64 0), (.var 427), .nili])))))))))))) (.ite (.cmp .lt (.var 0) (.int .i64 100)) (.call k_tcost [(.ar .rem .i64 (.ar .sub .i64 (.var 0) (.int .i64 80)) (.int .i64 5)), (.int .i64 1), (.ar .add .i64 (.ar .quo .i64 (.ar .sub .i64 (.var 0) (.int .i64 80)) (.int .i64 5)) (.int .i64 1))] [(.int .i64), (.int .i64), (.int .i64), (.int .i64), (.int .i64), (.int .i64)] (.call k_twr [] [(.int .i64), (.int .i64), (.int .i64), (.int .i64), (.int .i64), (.int .i64), (.int .i64), .bool, (.int .i64), (.int .i64), (.int .i64), (.int .i64), (.int .i64), (.list 45), (.int .i64), (.int .i64), (.int .i64), (.int .i64), (.int .i64), (.int .i64), (.int .i64), .bool, (.int .i64), (.int .i64), (.int .i64), (.int .i64), (.int .i64), (.list 45), (.int .i64), (.int .i64), (.int .i64), (.int .i64), (.int .i64), (.int .i64), (.int .i64), .bool, (.int .i64), (.int .i64), (.int .i64), (.int .i64), (.int .i64), (.list 45), (.int .i64), (.int .i64), (.int .i64), (.int .i64), (.int .i64), (.int .i64), (.int .i64), .bool, (.int .i64), (.int .i64), (.int .i64), (.int .i64), (.int .i64), (.list 45)] (.call k_tur [] [(.int .i64), (.int .i64), (.int .i64), (.int .i64), (.int .i64), (.int .i64), (.int .i64), .bool, (.int .i64), (.int .i64), (.int .i64), (.int .i64), (.int .i64), (.list 45), (.int .i64), (.int .i64), (.int .i64), (.int .i64), (.int .i64), (.int .i64), (.int .i64), .bool, (.int .i64), (.int .i64), (.int .i64), (.int .i64), (.int .i64), (.list 45), (.int .i64), (.int .i64), (.int .i64), (.int .i64), (.int .i64), (.int .i64), (.int .i64), .bool, (.int .i64), (.int .i64), (.int .i64), (.int .i64), (.int .i64), (.list 45), (.int .i64), (.int .i64), (.int .i64), (.int .i64), (.int .i64), (.int .i64), (.int .i64), .bool, (.int .i64), (.int .i64), (.int .i64), (.int .i64), (.int .i64), (.list 45)] (.call k_tbr [] [(.int .i64), (.int .i64), (.int .i64), (.int .i64), (.int .i64), (.int .i64), (.int .i64), .bool, (.int .i64), (.int .i64), (.int .i64), (.int .i64), (.int .i64), (.list 45), (.int .i64), (.int .i64), (.int .i64), (.int .i64), (.int .i64), (.int .i64), (.int .i64), .bool, (.int .i64), (.int .i64), (.int .i64), (.int .i64), (.int .i64), (.list 45), (.int .i64), (.int .i64), (.int .i64), (.int .i64), (.int .i64), (.int .i64), (.int .i64), .bool, (.int .i64), (.int .i64), (.int .i64), (.int .i64), (.int .i64), (.list 45), (.int .i64), (.int .i64), (.int .i64), (.int .i64), (.int .i64), (.int .i64), (.int .i64), .bool, (.int .i64), (.int .i64), (.int .i64), (.int .i64), (.int .i64), (.list 45)] (.call k_trr [] [(.int .i64), (.int .i64), (.int .i64), (.int .i64), (.int .i64), (.int .i64), (.int .i64), .bool, (.int .i64), (.int .i64), (.int .i64), (.int .i64), (.int .i64), (.list 45), (.int .i64), (.int .i64), (.int .i64), (.int .i64), (.int .i64), (.int .i64), (.int .i64), .bool, (.int .i64), (.int .i64), (.int .i64), (.int .i64), (.int .i64), (.list 45), (.int .i64), (.int .i64), (.int .i64), (.int .i64), (.int .i64), (.int .i64), (.int .i64), .bool, (.int .i64), (.int .i64), (.int .i64), (.int .i64), (.int .i64), (.list 45), (.int .i64), (.int .i64), (.int .i64), (.int .i64), (.int .i64), (.int .i64), (.int .i64), .bool, (.int .i64), (.int .i64), (.int .i64), (.int .i64), (.int .i64), (.list 45)] (.call k_tgr [] [(.int .i64), (.int .i64), (.int .i64), (.int .i64), (.int .i64), (.int .i64), (.int .i64), .bool, (.int .i64), (.int .i64), (.int .i64), (.int .i64), (.int .i64), (.list 45), (.int .i64), (.int .i64), (.int .i64), (.int .i64), (.int .i64), (.int .i64), (.int .i64), .bool, (.int .i64), (.int .i64), (.int .i64), (.int .i64), (.int .i64), (.list 45), (.int .i64), (.int .i64), (.int .i64), (.int .i64), (.int .i64), (.int .i64), (.int .i64), .bool, (.int .i64), (.int .i64), (.int .i64), (.int .i64), (.int .i64), (.list 45), (.int .i64), (.int .i64), (.int .i64), (.int .i64), (.int .i64), (.int .i64), (.int .i64), .bool, (.int .i64), (.int .i64), (.int .i64), (.int .i64), (.int .i64), (.list 45)] (.ob (.cmp .ge (.ar .rem .i64 (.ar .sub .i64 (.var 0) (.int .i64 80)) (.int .i64 5)) (.int .i64 0)) (.ob (.cmp .lt (.ar .rem .i64 (.ar .sub .i64 (.var 0) (.int .i64 80)) (.int .i64 5)) (.int .i64 5)) (.ob (.cmp .ge (.ar .quo .i64 (.ar .sub .i64 (.var 0) (.int .i64 80)) (.int .i64 5)) (.int .i64 0)) (.ob (.cmp .lt (.ar .quo .i64 (.ar .sub .i64 (.var 0) (.int .i64 80)) (.int .i64 5)) (.int .i64 4)) (.share 47 (.push .emp (.econs (.sel (.econs (.sel (.econs (.var 7) (.econs (.var 63) (.econs (.var 119) (.econs (.var 175) (.econs (.var 231) .enil))))) (.ar .rem .i64 (.ar .sub .i64 (.var 0) (.int .i64 80)) (.int .i64 5)) (.int .i64)) (.econs (.sel (.econs (.var 21) (.econs (.var 77) (.econs (.var 133) (.econs (.var 189) (.econs (.var 245) .enil))))) (.ar .rem .i64 (.ar .sub .i64 (.var 0) (.int .i64 80)) (.int .i64 5)) (.int .i64)) (.econs (.sel (.econs (.var 35) (.econs (.var 91) (.econs (.var 147) (.econs (.var 203) (.econs (.var 259) .enil))))) (.ar .rem .i64 (.ar .sub .i64 (.var 0) (.int .i64 80)) (.int .i64 5)) (.int .i64)) (.econs (.sel (.econs (.var 49) (.econs (.var 105) (.econs (.var 161) (.econs (.var 217) (.econs (.var 273) .enil))))) (.ar .rem .i64 (.ar .sub .i64 (.var 0) (.int .i64 80)) (.int .i64 5)) (.int .i64)) .enil)))) (.ar .quo .i64 (.ar .sub .i64 (.var 0) (.int .i64 80)) (.int .i64 5)) (.int .i64)) (.econs (.sel (.econs (.sel (.econs (.var 8) (.econs (.var 64) (.econs (.var 120) (.econs (.var 176) (.econs (.var 232) .enil))))) (.ar .rem .i64 (.ar .sub .i64 (.var 0) (.int .i64 80)) (.int .i64 5)) (.int .i64)) (.econs (.sel (.econs (.var 22) (.econs (.var 78) (.econs (.var 134) (.econs (.var 190) (.econs (.var 246) .enil))))) (.ar .rem .i64 (.ar .sub .i64 (.var 0) (.int .i64 80)) (.int .i64 5)) (.int .i64)) (.econs (.sel (.econs (.var 36) (.econs (.var 92) (.econs (.var 148) (.econs (.var 204) (.econs (.var 260) .enil))))) (.ar .rem .i64 (.ar .sub .i64 (.var 0) (.int .i64 80)) (.int .i64 5)) (.int .i64)) (.econs (.sel (.econs (.var 50) (.econs (.var 106) (.econs (.var 162) (.econs (.var 218) (.econs (.var 274) .enil))))) (.ar .rem .i64 (.ar .sub .i64 (.var 0) (.int .i64 80)) (.int .i64 5)) (.int .i64)) .enil)))) (.ar .quo .i64 (.ar .sub .i64 (.var 0) (.int .i64 80)) (.int .i64 5)) (.int .i64)) (.econs (.sel (.econs (.sel (.econs (.var 9) (.econs (.var 65) (.econs (.var 121) (.econs (.var 177) (.econs (.var 233) .enil))))) (.ar .rem .i64 (.ar .sub .i64 (.var 0) (.int .i64 80)) (.int .i64 5)) (.int .i64)) (.econs (.sel (.econs (.var 23) (.econs (.var 79) (.econs (.var 135) (.econs (.var 191) (.econs (.var 247) .enil))))) (.ar .rem .i64 (.ar .sub .i64 (.var 0) (.int .i64 80)) (.int .i64 5)) (.int .i64)) (.econs (.sel (.econs (.var 37) (.econs (.var 93) (.econs (.var 149) (.econs (.var 205) (.econs (.var 261) .enil))))) (.ar .rem .i64 (.ar .sub .i64 (.var 0) (.int .i64 80)) (.int .i64 5)) (.int .i64)) (.econs (.sel (.econs (.var 51) (.econs (.var 107) (.econs (.var 163) (.econs (.var 219) (.econs (.var 275) .enil))))) (.ar .rem .i64 (.ar .sub .i64 (.var 0) (.int .i64 80)) (.int .i64 5)) (.int .i64)) .enil)))) (.ar .quo .i64 (.ar .sub .i64 (.var 0) (.int .i64 80)) (.int .i64 5)) (.int .i64)) (.econs (.sel (.econs (.sel (.econs (.var 10) (.econs (.var 66) (.econs (.var 122) (.econs (.var 178) (.econs (.var 234) .enil))))) (.ar .rem .i64 (.ar .sub .i64 (.var 0) (.int .i64 80)) (.int .i64 5)) (.int .i64)) (.econs (.sel (.econs (.var 24) (.econs (.var 80) (.econs (.var 136) (.econs (.var 192) (.econs (.var 248) .enil))))) (.ar .rem .i64 (.ar .sub .i64 (.var 0) (.int .i64 80)) (.int .i64 5)) (.int .i64)) (.econs (.sel (.econs (.var 38) (.econs (.var 94) (.econs (.var 150) (.econs (.var 206) (.econs (.var 262) .enil))))) (.ar .rem .i64 (.ar .sub .i64 (.var 0) (.int .i64 80)) (.int .i64 5)) (.int .i64)) (.econs (.sel (.econs (.var 52) (.econs (.var 108) (.econs (.var 164) (.econs (.var 220) (.econs (.var 276) .enil))))) (.ar .rem .i64 (.ar .sub .i64 (.var 0) (.int .i64 80)) (.int .i64 5)) (.int .i64)) .enil)))) (.ar .quo .i64 (.ar .sub .i64 (.var 0) (.int .i64 80)) (.int .i64 5)) (.int .i64)) (.econs (.sel (.econs (.sel (.econs (.var 11) (.econs (.var 67) (.econs (.var 123) (.econs (.var 179) (.econs (.var 235) .enil))))) (.ar .rem .i64 (.ar .sub .i64 (.var 0) (.int .i64 80)) (.int .i64 5)) (.int .i64)) (.econs (.sel (.econs (.var 25) (.econs (.var 81) (.econs (.var 137) (.econs (.var 193) (.econs (.var 249) .enil))))) (.ar .rem .i64 (.ar .sub .i64 (.var 0) (.int .i64 80)) (.int .i64 5)) (.int .i64)) (.econs (.sel (.econs (.var 39) (.econs (.var 95) (.econs (.var 151) (.econs (.var 207) (.econs (.var 263) .enil))))) (.ar .rem .i64 (.ar .sub .i64 (.var 0) (.int .i64 80)) (.int .i64 5)) (.int .i64)) (.econs (.sel (.econs (.var 53) (.econs (.var 109) (.econs (.var 165) (.econs (.var 221) (.econs (.var 277) .enil))))) (.ar .rem .i64 (.ar .sub .i64 (.var 0) (.int .i64 80)) (.int .i64 5)) (.int .i64)) .enil)))) (.ar .quo .i64 (.ar .sub .i64 (.var 0) (.int .i64 80)) (.int .i64 5)) (.int .i64)) (.econs (.sel (.econs (.sel (.econs (.var 12) (.econs (.var 68) (.econs (.var 124) (.econs (.var 180) (.econs (.var 236) .enil))))) (.ar .rem .i64 (.ar .sub .i64 (.var 0) (.int .i64 80)) (.int .i64 5)) (.int .i64)) (.econs (.sel (.econs (.var 26) (.econs (.var 82) (.econs (.var 138) (.econs (.var 194) (.econs (.var 250) .enil))))) (.ar .rem .i64 (.ar .sub .i64 (.var 0) (.int .i64 80)) (.int .i64 5)) (.int .i64)) (.econs (.sel (.econs (.var 40) (.econs (.var 96) (.econs (.var 152) (.econs (.var 208) (.econs (.var 264) .enil))))) (.ar .rem .i64 (.ar .sub .i64 (.var 0) (.int .i64 80)) (.int .i64 5)) (.int .i64)) (.econs (.sel (.econs (.var 54) (.econs (.var 110) (.econs (.var 166) (.econs (.var 222) (.econs (.var 278) .enil))))) (.ar .rem .i64 (.ar .sub .i64 (.var 0) (.int .i64 80)) (.int .i64 5)) (.int .i64)) .enil)))) (.ar .quo .i64 (.ar .sub .i64 (.var 0) (.int .i64 80)) (.int .i64 5)) (.int .i64)) (.econs (.sel (.econs (.sel (.econs (.var 13) (.econs (.var 69) (.econs (.var 125) (.econs (.var 181) (.econs (.var 237) .enil))))) (.ar .rem .i64 (.ar .sub .i64 (.var 0) (.int .i64 80)) (.int .i64 5)) (.int .i64)) (.econs (.sel (.econs (.var 27) (.econs (.var 83) (.econs (.var 139) (.econs (.var 195) (.econs (.var 251) .enil))))) (.ar .rem .i64 (.ar .sub .i64 (.var 0) (.int .i64 80)) (.int .i64 5)) (.int .i64)) (.econs (.sel (.econs (.var 41) (.econs (.var 97) (.econs (.var 153) (.econs (.var 209) (.econs (.var 265) .enil))))) (.ar .rem .i64 (.ar .sub .i64 (.var 0) (.int .i64 80)) (.int .i64 5)) (.int .i64)) (.econs (.sel (.econs (.var 55) (.econs (.var 111) (.econs (.var 167) (.econs (.var 223) (.econs (.var 279) .enil))))) (.ar .rem .i64 (.ar .sub .i64 (.var 0) (.int .i64 80)) (.int .i64 5)) (.int .i64)) .enil)))) (.ar .quo .i64 (.ar .sub .i64 (.var 0) (.int .i64 80)) (.int .i64 5)) (.int .i64)) (.econs (.sel (.econs (.sel (.econs (.var 14) (.econs (.var 70) (.econs (.var 126) (.econs (.var 182) (.econs (.var 238) .enil))))) (.ar .rem .i64 (.ar .sub .i64 (.var 0) (.int .i64 80)) (.int .i64 5)) .bool) (.econs (.sel (.econs (.var 28) (.econs (.var 84) (.econs (.var 140) (.econs (.var 196) (.econs (.var 252) .enil))))) (.ar .rem .i64 (.ar .sub .i64 (.var 0) (.int .i64 80)) (.int .i64 5)) .bool) (.econs (.sel (.econs (.var 42) (.econs (.var 98) (.econs (.var 154) (.econs (.var 210) (.econs (.var 266) .enil))))) (.ar .rem .i64 (.ar .sub .i64 (.var 0) (.int .i64 80)) (.int .i64 5)) .bool) (.econs (.sel (.econs (.var 56) (.econs (.var 112) (.econs (.var 168) (.econs (.var 224) (.econs (.var 280) .enil))))) (.ar .rem .i64 (.ar .sub .i64 (.var 0) (.int .i64 80)) (.int .i64 5)) .bool) .enil)))) (.ar .quo .i64 (.ar .sub .i64 (.var 0) (.int .i64 80)) (.int .i64 5)) .bool) (.econs (.sel (.econs (.sel (.econs (.var 15) (.econs (.var 71) (.econs (.var 127) (.econs (.var 183) (.econs (.var 239) .enil))))) (.ar .rem .i64 (.ar .sub .i64 (.var 0) (.int .i64 80)) (.int .i64 5)) (.int .i64)) (.econs (.sel (.econs (.var 29) (.econs (.var 85) (.econs (.var 141) (.econs (.var 197) (.econs (.var 253) .enil))))) (.ar .rem .i64 (.ar .sub .i64 (.var 0) (.int .i64 80)) (.int .i64 5)) (.int .i64)) (.econs (.sel (.econs (.var 43) (.econs (.var 99) (.econs (.var 155) (.econs (.var 211) (.econs (.var 267) .enil))))) (.ar .rem .i64 (.ar .sub .i64 (.var 0) (.int .i64 80)) (.int .i64 5)) (.int .i64)) (.econs (.sel (.econs (.var 57) (.econs (.var 113) (.econs (.var 169) (.econs (.var 225) (.econs (.var 281) .enil))))) (.ar .rem .i64 (.ar .sub .i64 (.var 0) (.int .i64 80)) (.int .i64 5)) (.int .i64)) .enil)))) (.ar .quo .i64 (.ar .sub .i64 (.var 0) (.int .i64 80)) (.int .i64 5)) (.int .i64)) (.econs (.sel (.econs (.sel (.econs (.var 16) (.econs (.var 72) (.econs (.var 128) (.econs (.var 184) (.econs (.var 240) .enil))))) (.ar .rem .i64 (.ar .sub .i64 (.var 0) (.int .i64 80)) (.int .i64 5)) (.int .i64)) (.econs (.sel (.econs (.var 30) (.econs (.var 86) (.econs (.var 142) (.econs (.var 198) (.econs (.var 254) .enil))))) (.ar .rem .i64 (.ar .sub .i64 (.var 0) (.int .i64 80)) (.int .i64 5)) (.int .i64)) (.econs (.sel (.econs (.var 44) (.econs (.var 100) (.econs (.var 156) (.econs (.var 212) (.econs (.var 268) .enil))))) (.ar .rem .i64 (.ar .sub .i64 (.var 0) (.int .i64 80)) (.int .i64 5)) (.int .i64)) (.econs (.sel (.econs (.var 58) (.econs (.var 114) (.econs (.var 170) (.econs (.var 226) (.econs (.var 282) .enil))))) (.ar .rem .i64 (.ar .sub .i64 (.var 0) (.int .i64 80)) (.int .i64 5)) (.int .i64)) .enil)))) (.ar .quo .i64 (.ar .sub .i64 (.var 0) (.int .i64 80)) (.int .i64 5)) (.int .i64)) (.econs (.sel (.econs (.sel (.econs (.var 17) (.econs (.var 73) (.econs (.var 129) (.econs (.var 185) (.econs (.var 241) .enil))))) (.ar .rem .i64 (.ar .sub .i64 (.var 0) (.int .i64 80)) (.int .i64 5)) (.int .i64)) (.econs (.sel (.econs (.var 31) (.econs (.var 87) (.econs (.var 143) (.econs (.var 199) (.econs (.var 255) .enil))))) (.ar .rem .i64 (.ar .sub .i64 (.var 0) (.int .i64 80)) (.int .i64 5)) (.int .i64)) (.econs (.sel (.econs (.var 45) (.econs (.var 101) (.econs (.var 157) (.econs (.var 213) (.econs (.var 269) .enil))))) (.ar .rem .i64 (.ar .sub .i64 (.var 0) (.int .i64 80)) (.int .i64 5)) (.int .i64)) (.econs (.sel (.econs (.var 59) (.econs (.var 115) (.econs (.var 171) (.econs (.var 227) (.econs (.var 283) .enil))))) (.ar .rem .i64 (.ar .sub .i64 (.var 0) (.int .i64 80)) (.int .i64 5)) (.int .i64)) .enil)))) (.ar .quo .i64 (.ar .sub .i64 (.var 0) (.int .i64 80)) (.int .i64 5)) (.int .i64)) (.econs (.sel (.econs (.sel (.econs (.var 18) (.econs (.var 74) (.econs (.var 130) (.econs (.var 186) (.econs (.var 242) .enil))))) (.ar .rem .i64 (.ar .sub .i64 (.var 0) (.int .i64 80)) (.int .i64 5)) (.int .i64)) (.econs (.sel (.econs (.var 32) (.econs (.var 88) (.econs (.var 144) (.econs (.var 200) (.econs (.var 256) .enil))))) (.ar .rem .i64 (.ar .sub .i64 (.var 0) (.int .i64 80)) (.int .i64 5)) (.int .i64)) (.econs (.sel (.econs (.var 46) (.econs (.var 102) (.econs (.var 158) (.econs (.var 214) (.econs (.var 270) .enil))))) (.ar .rem .i64 (.ar .sub .i64 (.var 0) (.int .i64 80)) (.int .i64 5)) (.int .i64)) (.econs (.sel (.econs (.var 60) (.econs (.var 116) (.econs (.var 172) (.econs (.var 228) (.econs (.var 284) .enil))))) (.ar .rem .i64 (.ar .sub .i64 (.var 0) (.int .i64 80)) (.int .i64 5)) (.int .i64)) .enil)))) (.ar .quo .i64 (.ar .sub .i64 (.var 0) (.int .i64 80)) (.int .i64 5)) (.int .i64)) (.econs (.sel (.econs (.sel (.econs (.var 19) (.econs (.var 75) (.econs (.var 131) (.econs (.var 187) (.econs (.var 243) .enil))))) (.ar .rem .i64 (.ar .sub .i64 (.var 0) (.int .i64 80)) (.int .i64 5)) (.int .i64)) (.econs (.sel (.econs (.var 33) (.econs (.var 89) (.econs (.var 145) (.econs (.var 201) (.econs (.var 257) .enil))))) (.ar .rem .i64 (.ar .sub .i64 (.var 0) (.int .i64 80)) (.int .i64 5)) (.int .i64)) (.econs (.sel (.econs (.var 47) (.econs (.var 103) (.econs (.var 159) (.econs (.var 215) (.econs (.var 271) .enil))))) (.ar .rem .i64 (.ar .sub .i64 (.var 0) (.int .i64 80)) (.int .i64 5)) (.int .i64)) (.econs (.sel (.econs (.var 61) (.econs (.var 117) (.econs (.var 173) (.econs (.var 229) (.econs (.var 285) .enil))))) (.ar .rem .i64 (.ar .sub .i64 (.var 0) (.int .i64 80)) (.int .i64 5)) (.int .i64)) .enil)))) (.ar .quo .i64 (.ar .sub .i64 (.var 0) (.int .i64 80)) (.int .i64 5)) (.int .i64)) (.econs (.sel (.econs (.sel (.econs (.var 20) (.econs (.var 76) (.econs (.var 132) (.econs (.var 188) (.econs (.var 244) .enil))))) (.ar .rem .i64 (.ar .sub .i64 (.var 0) (.int .i64 80)) (.int .i64 5)) (.list 45)) (.econs (.sel (.econs (.var 34) (.econs (.var 90) (.econs (.var 146) (.econs (.var 202) (.econs (.var 258) .enil))))) (.ar .rem .i64 (.ar .sub .i64 (.var 0) (.int .i64 80)) (.int .i64 5)) (.list 45)) (.econs (.sel (.econs (.var 48) (.econs (.var 104) (.econs (.var 160) (.econs (.var 216) (.econs (.var 272) .enil))))) (.ar .rem .i64 (.ar .sub .i64 (.var 0) (.int .i64 80)) (.int .i64 5)) (.list 45)) (.econs (.sel (.econs (.var 62) (.econs (.var 118) (.econs (.var 174) (.econs (.var 230) (.econs (.var 286) .enil))))) (.ar .rem .i64 (.ar .sub .i64 (.var 0) (.int .i64 80)) (.int .i64 5)) (.list 45)) .enil)))) (.ar .quo .i64 (.ar .sub .i64 (.var 0) (.int .i64 80)) (.int .i64 5)) (.list 45)) .enil))))))))))))))) (.ret [(.int .i64 3), (.ar .rem .i64 (.ar .sub .i64 (.var 0) (.int .i64 80)) (.int .i64 5)), (.bool false), (.var 1), (.var 2), (.var 3), (.var 4), (.var 5), (.var 6), (.int .i64 0), (.int .i64 0), (.int .i64 0), (.var 287), .nili])))))))))))) (.ite (.cmp .lt (.var 0) (.int .i64 112)) (.call k_tspecial [(.ar .sub .i64 (.var 0) (.int .i64 100))] [(.int .i64), (.int .i64), .bool, (.int .i64), (.int .i64), (.int .i64), (.int .i64), (.int .i64), (.int .i64), (.int .i64), (.int .i64), (.int .i64), (.list 47)] (.ret [(.var 1), (.var 2), (.var 3), (.var 4), (.var 5), (.var 6), (.var 7), (.var 8), (.var 9), (.var 10), (.var 11), (.var 12), (.var 13), .nili])) (.ret [(.int .i64 1), (.int .i64 5), (.bool false), (.int .i64 0), (.int .i64 0), (.int .i64 0), (.int .i64 0), (.int .i64 0), (.int .i64 0), (.ar .add .i64 (.ar .quo .i64 (.ar .sub .i64 (.var 0) (.int .i64 112)) (.int .i64 2)) (.int .i64 1)), (.ar .add .i64 (.ar .quo .i64 (.ar .sub .i64 (.var 0) (.int .i64 112)) (.int .i64 2)) (.int .i64 1)), (.ar .mul .i64 (.ar .rem .i64 (.ar .sub .i64 (.var 0) (.int .i64 112)) (.int .i64 2)) (.int .i64 1)), (.nil 47), .nili])))))))
theorem wk_tcard : walk E0.cx (sgsN [(16, sg_tcost), (14, sg_tsource), (15, sg_tbeast), (40, sg_tws), (41, sg_tus), (42, sg_tbs), (43, sg_trs), (44, sg_tgs), (45, sg_twr), (46, sg_tur), (47, sg_tbr), (48, sg_trr), (49, sg_tgr), (19, sg_tspecial)]) 0 6 sg_tcard = tr_tcard := by kernel_rfl
theorem bo_tcard : ∃ x, bodyOf E0.P 6 = some x := bo_of (by kernel_rfl)
theorem sp_tcard_tcost : specC [con_tcost, con_tsource, con_tbeast, con_tws, con_tus, con_tbs, con_trs, con_tgs, con_twr, con_tur, con_tbr, con_trr, con_tgr, con_tspecial] k_tcost = tcost_s := rfl
theorem sp_tcard_tsource : specC [con_tcost, con_tsource, con_tbeast, con_tws, con_tus, con_tbs, con_trs, con_tgs, con_twr, con_tur, con_tbr, con_trr, con_tgr, con_tspecial] k_tsource = tsource_s := rfl
theorem sp_tcard_tbeast : specC [con_tcost, con_tsource, con_tbeast, con_tws, con_tus, con_tbs, con_trs, con_tgs, con_twr, con_tur, con_tbr, con_trr, con_tgr, con_tspecial] k_tbeast = tbeast_s := rfl
theorem sp_tcard_tws : specC [con_tcost, con_tsource, con_tbeast, con_tws, con_tus, con_tbs, con_trs, con_tgs, con_twr, con_tur, con_tbr, con_trr, con_tgr, con_tspecial] k_tws = tws_s := rfl
theorem sp_tcard_tus : specC [con_tcost, con_tsource, con_tbeast, con_tws, con_tus, con_tbs, con_trs, con_tgs, con_twr, con_tur, con_tbr, con_trr, con_tgr, con_tspecial] k_tus = tus_s := rfl
theorem sp_tcard_tbs : specC [con_tcost, con_tsource, con_tbeast, con_tws, con_tus, con_tbs, con_trs, con_tgs, con_twr, con_tur, con_tbr, con_trr, con_tgr, con_tspecial] k_tbs = tbs_s := rfl
theorem sp_tcard_trs : specC [con_tcost, con_tsource, con_tbeast, con_tws, con_tus, con_tbs, con_trs, con_tgs, con_twr, con_tur, con_tbr, con_trr, con_tgr, con_tspecial] k_trs = trs_s := rfl
theorem sp_tcard_tgs : specC [con_tcost, con_tsource, con_tbeast, con_tws, con_tus, con_tbs, con_trs, con_tgs, con_twr, con_tur, con_tbr, con_trr, con_tgr, con_tspecial] k_tgs = tgs_s := rfl
theorem sp_tcard_twr : specC [con_tcost, con_tsource, con_tbeast, con_tws, con_tus, con_tbs, con_trs, con_tgs, con_twr, con_tur, con_tbr, con_trr, con_tgr, con_tspecial] k_twr = twr_s := rfl
theorem sp_tcard_tur : specC [con_tcost, con_tsource, con_tbeast, con_tws, con_tus, con_tbs, con_trs, con_tgs, con_twr, con_tur, con_tbr, con_trr, con_tgr, con_tspecial] k_tur = tur_s := rfl
theorem sp_tcard_tbr : specC [con_tcost, con_tsource, con_tbeast, con_tws, con_tus, con_tbs, con_trs, con_tgs, con_twr, con_tur, con_tbr, con_trr, con_tgr, con_tspecial] k_tbr = tbr_s := rfl
theorem sp_tcard_trr : specC [con_tcost, con_tsource, con_tbeast, con_tws, con_tus, con_tbs, con_trs, con_tgs, con_twr, con_tur, con_tbr, con_trr, con_tgr, con_tspecial] k_trr = trr_s := rfl
theorem sp_tcard_tgr : specC [con_tcost, con_tsource, con_tbeast, con_tws, con_tus, con_tbs, con_trs, con_tgs, con_twr, con_tur, con_tbr, con_trr, con_tgr, con_tspecial] k_tgr = tgr_s := rfl
theorem sp_tcard_tspecial : specC [con_tcost, con_tsource, con_tbeast, con_tws, con_tus, con_tbs, con_trs, con_tgs, con_twr, con_tur, con_tbr, con_trr, con_tgr, con_tspecial] k_tspecial = tspecial_s := rfl
def lit0 (l : List PD) : List PD → Option (List PD)
  | [] => some l
  | _ => none
theorem fits_lit {Φ : Nat → Spec} {k : Nat} {g : List PD → Option (List PD)} {x : List PD} {l : List (Nat × (List PD → Option (List PD)))} (h : Φ k = psp g) (hg : g [] = some x) (t : (pfun l).fits Φ) : (pfun ((k, lit0 x) :: l)).fits Φ := fun f args rs h' ds W hd hW => by
  simp only [pfun] at h'
  split at h'
  · rename_i e
    subst e
    rw [h]
    cases args with
    | nil => exact ⟨x, by rw [hd]; exact hg, by cases h'; exact hW⟩
    | cons a b => cases h'
  · exact t f args rs h' ds W hd hW
noncomputable def tcard_g : List PD → Option (List PD) := fun ps => evL E0.Δ (pfun [(k_tcost, tcost_g), (k_tsource, tsource_g), (k_tbeast, tbeast_g), (k_tws, lit0 whiteS), (k_tus, lit0 blueS), (k_tbs, lit0 blackS), (k_trs, lit0 redS), (k_tgs, lit0 greenS), (k_twr, lit0 whiteR), (k_tur, lit0 blueR), (k_tbr, lit0 blackR), (k_trr, lit0 redR), (k_tgr, lit0 greenR), (k_tspecial, tspecial_g)]) 0 [] tr_tcard ps
def tcard_s : Spec := psp tcard_g
theorem tcard_h : Holds E0 k_tcard sg_tcard tcard_s := con_ev wf0 mix0 g0 [con_tcost, con_tsource, con_tbeast, con_tws, con_tus, con_tbs, con_trs, con_tgs, con_twr, con_tur, con_tbr, con_trr, con_tgr, con_tspecial] rfl wk_tcard rfl
  (fits_cons (k := k_tcost) (g := tcost_g) sp_tcard_tcost (fits_cons (k := k_tsource) (g := tsource_g) sp_tcard_tsource (fits_cons (k := k_tbeast) (g := tbeast_g) sp_tcard_tbeast
    (fits_lit (k := k_tws) (g := tws_g) sp_tcard_tws tws_ok (fits_lit (k := k_tus) (g := tus_g) sp_tcard_tus tus_ok (fits_lit (k := k_tbs) (g := tbs_g) sp_tcard_tbs tbs_ok (fits_lit (k := k_trs) (g := trs_g) sp_tcard_trs trs_ok (fits_lit (k := k_tgs) (g := tgs_g) sp_tcard_tgs tgs_ok
    (fits_lit (k := k_twr) (g := twr_g) sp_tcard_twr twr_ok (fits_lit (k := k_tur) (g := tur_g) sp_tcard_tur tur_ok (fits_lit (k := k_tbr) (g := tbr_g) sp_tcard_tbr tbr_ok (fits_lit (k := k_trr) (g := trr_g) sp_tcard_trr trr_ok (fits_lit (k := k_tgr) (g := tgr_g) sp_tcard_tgr tgr_ok
    (fits_cons (k := k_tspecial) (g := tspecial_g) sp_tcard_tspecial fits_nil)))))))))))))) 0
noncomputable def con_tcard : Con E0 := ⟨k_tcard, sg_tcard, tcard_s, rfl, bo_tcard, tcard_h⟩
noncomputable def tchk (n : Nat) : Bool := match tcard_g [.int n] with
  | some l => sameR l (cardP n ++ [.nil])
  | none => false
end Go.Proofs.YtigdoooikfgdfaaDoor
end

section
namespace Go.Proofs.YtigdoooikfgdfaaDoor
open Go.RowKit
set_option linter.unusedVariables false
set_option linter.unusedSimpArgs false

theorem tchk_0 : (List.range' 0 50).all tchk = true := by kernel_rfl
theorem tchk_1 : (List.range' 50 30).all tchk = true := by kernel_rfl
theorem tchk_2 : (List.range' 80 40).all tchk = true := by kernel_rfl
theorem tcard_in {n : Int} (h0 : 0 ≤ n) (h1 : n < 120) : tcard_g [.int n] = some (cardP n ++ [.nil]) := by
  obtain ⟨k, rfl⟩ := Int.eq_ofNat_of_zero_le h0
  have h : tchk k = true := by
    by_cases h5 : k < 50
    · exact List.all_eq_true.1 tchk_0 k (by simp [List.mem_range']; omega)
    · by_cases h8 : k < 80
      · exact List.all_eq_true.1 tchk_1 k (by simp only [List.mem_range']; exact ⟨k - 50, by omega, by omega⟩)
      · exact List.all_eq_true.1 tchk_2 k (by simp only [List.mem_range']; exact ⟨k - 80, by omega, by omega⟩)
  unfold tchk at h
  split at h
  · rename_i l hl
    rw [hl, sameR_ok h]
  · cases h
end Go.Proofs.YtigdoooikfgdfaaDoor
end

section
namespace Go.Proofs.YtigdoooikfgdfaaDoor
open Go.Shelf
def sh_laysM171_ren : Go.Shelf.Ren := ⟨fun | 171 => 28 | 243 => 52 | 246 => 65 | 283 => 75 | 284 => 76 | 285 => 77 | 286 => 78 | 129 => 92 | 317 => 91 | 318 => 93 | 319 => 94 | 320 => 95 | 337 => 103 | 338 => 104 | n => n, fun | 3 => 3 | 9 => 9 | 2 => 2 | 4 => 4 | 171 => 101 | 0 => 0 | 53 => 102 | 37 => 82 | 5 => 5 | 173 => 105 | 212 => 122 | 51 => 123 | 20 => 20 | 213 => 124 | 46 => 75 | 232 => 137 | 233 => 138 | n => n, fun | 17 => 3 | 18 => 4 | 19 => 5 | n => n⟩
theorem sh_laysM171 : Go.Proofs.LaysM.n171 Tryd.prog sh_laysM171_ren := {
  mixed := by kernel_rfl
  f129 := Tryd.func92.trans (congrArg some (by kernel_rfl))
  f171 := Tryd.func28.trans (congrArg some (by kernel_rfl))
  f243 := Tryd.func52.trans (congrArg some (by kernel_rfl))
  f246 := Tryd.func65.trans (congrArg some (by kernel_rfl))
  f283 := Tryd.func75.trans (congrArg some (by kernel_rfl))
  f284 := Tryd.func76.trans (congrArg some (by kernel_rfl))
  f285 := Tryd.func77.trans (congrArg some (by kernel_rfl))
  f286 := Tryd.func78.trans (congrArg some (by kernel_rfl))
  f317 := Tryd.func91.trans (congrArg some (by kernel_rfl))
  f318 := Tryd.func93.trans (congrArg some (by kernel_rfl))
  f319 := Tryd.func94.trans (congrArg some (by kernel_rfl))
  f320 := Tryd.func95.trans (congrArg some (by kernel_rfl))
  f337 := Tryd.func103.trans (congrArg some (by kernel_rfl))
  f338 := Tryd.func104.trans (congrArg some (by kernel_rfl))
  t0 := Tryd.underlying0
  a0 := Tryd.isAgg0
  z0 := Tryd.sizeOf0
  v0 := Tryd.zeroValue0
  t2 := Tryd.underlying2
  a2 := Tryd.isAgg2
  z2 := Tryd.sizeOf2
  v2 := Tryd.zeroValue2
  t3 := Tryd.underlying3
  a3 := Tryd.isAgg3
  z3 := Tryd.sizeOf3
  v3 := Tryd.zeroValue3
  t4 := Tryd.underlying4
  a4 := Tryd.isAgg4
  z4 := Tryd.sizeOf4
  v4 := Tryd.zeroValue4
  t5 := Tryd.underlying5
  a5 := Tryd.isAgg5
  z5 := Tryd.sizeOf5
  v5 := Tryd.zeroValue5
  t9 := Tryd.underlying9
  a9 := Tryd.isAgg9
  z9 := Tryd.sizeOf9
  v9 := Tryd.zeroValue9
  t20 := Tryd.underlying20
  a20 := Tryd.isAgg20
  z20 := Tryd.sizeOf20
  v20 := Tryd.zeroValue20
  t37 := Tryd.underlying82
  a37 := Tryd.isAgg82
  z37 := Tryd.sizeOf82
  v37 := Tryd.zeroValue82
  t46 := Tryd.underlying75
  a46 := Tryd.isAgg75
  z46 := Tryd.sizeOf75
  v46 := Tryd.zeroValue75
  t51 := Tryd.underlying123
  a51 := Tryd.isAgg123
  z51 := Tryd.sizeOf123
  v51 := Tryd.zeroValue123
  t53 := Tryd.underlying102
  a53 := Tryd.isAgg102
  z53 := Tryd.sizeOf102
  v53 := Tryd.zeroValue102
  t171 := Tryd.underlying101
  a171 := Tryd.isAgg101
  z171 := Tryd.sizeOf101
  v171 := Tryd.zeroValue101
  t173 := Tryd.underlying105
  a173 := Tryd.isAgg105
  z173 := Tryd.sizeOf105
  v173 := Tryd.zeroValue105
  t212 := Tryd.underlying122
  a212 := Tryd.isAgg122
  z212 := Tryd.sizeOf122
  v212 := Tryd.zeroValue122
  t213 := Tryd.underlying124
  a213 := Tryd.isAgg124
  z213 := Tryd.sizeOf124
  t232 := Tryd.underlying137
  a232 := Tryd.isAgg137
  z232 := Tryd.sizeOf137
  v232 := Tryd.zeroValue137
  t233 := Tryd.underlying138
  a233 := Tryd.isAgg138
  z233 := Tryd.sizeOf138
  v233 := Tryd.zeroValue138
  g17 := by kernel_rfl
  g18 := by kernel_rfl
  g19 := by kernel_rfl
  i0 := by kernel_rfl
  i2 := by kernel_rfl
  i3 := by kernel_rfl
  i4 := by kernel_rfl
  i5 := by kernel_rfl
  i9 := by kernel_rfl
  i20 := by kernel_rfl
  i37 := by kernel_rfl
  i46 := by kernel_rfl
  i51 := by kernel_rfl
  i53 := by kernel_rfl
  i171 := by kernel_rfl
  i173 := by kernel_rfl
  i212 := by kernel_rfl
  i232 := by kernel_rfl
  i233 := by kernel_rfl
  m17 := by kernel_rfl
  m18 := by kernel_rfl
  m19 := by kernel_rfl }
open Go.RowKit Go.Sort Go.Lib in
theorem sh_strconv_Itoa (n : Int) (h0 : -9223372036854775808 ≤ n) (h1 : n ≤ 9223372036854775807) (w : World) (htab : Lib.TabIs Tryd.prog w "internal/strconv.uint64pow10" .u64 Lib.pow10Tab) :
    Calls Tryd.prog 28 #[.int .i64 n] w fun e w' => e = .returned (.string ⟨(Lib.itoa n).toArray⟩) ∧ ∃ k os, w' = grow (w.drewN k) os := Any.strconv_Itoa sh_laysM171 n h0 h1 w htab
def sh_lays171_ren : Go.Shelf.Ren := ⟨fun | 171 => 28 | 243 => 52 | 246 => 65 | 283 => 75 | 284 => 76 | 285 => 77 | 286 => 78 | 129 => 92 | 317 => 91 | 318 => 93 | 319 => 94 | 320 => 95 | 337 => 103 | 338 => 104 | n => n, fun | 3 => 3 | 9 => 9 | 2 => 2 | 4 => 4 | 171 => 101 | 0 => 0 | 53 => 102 | 37 => 82 | 5 => 5 | 173 => 105 | 212 => 122 | 51 => 123 | 20 => 20 | 213 => 124 | 46 => 75 | 232 => 137 | 233 => 138 | n => n, fun | 17 => 3 | 18 => 4 | 19 => 5 | n => n⟩
theorem sh_lays171 : Go.Proofs.Lays.n171 Tryd.prog sh_lays171_ren := {
  mixed := by kernel_rfl
  f129 := Tryd.func92.trans (congrArg some (by kernel_rfl))
  f171 := Tryd.func28.trans (congrArg some (by kernel_rfl))
  f243 := Tryd.func52.trans (congrArg some (by kernel_rfl))
  f246 := Tryd.func65.trans (congrArg some (by kernel_rfl))
  f283 := Tryd.func75.trans (congrArg some (by kernel_rfl))
  f284 := Tryd.func76.trans (congrArg some (by kernel_rfl))
  f285 := Tryd.func77.trans (congrArg some (by kernel_rfl))
  f286 := Tryd.func78.trans (congrArg some (by kernel_rfl))
  f317 := Tryd.func91.trans (congrArg some (by kernel_rfl))
  f318 := Tryd.func93.trans (congrArg some (by kernel_rfl))
  f319 := Tryd.func94.trans (congrArg some (by kernel_rfl))
  f320 := Tryd.func95.trans (congrArg some (by kernel_rfl))
  f337 := Tryd.func103.trans (congrArg some (by kernel_rfl))
  f338 := Tryd.func104.trans (congrArg some (by kernel_rfl))
  t0 := Tryd.underlying0
  a0 := Tryd.isAgg0
  z0 := Tryd.sizeOf0
  v0 := Tryd.zeroValue0
  t2 := Tryd.underlying2
  a2 := Tryd.isAgg2
  z2 := Tryd.sizeOf2
  v2 := Tryd.zeroValue2
  t3 := Tryd.underlying3
  a3 := Tryd.isAgg3
  z3 := Tryd.sizeOf3
  v3 := Tryd.zeroValue3
  t4 := Tryd.underlying4
  a4 := Tryd.isAgg4
  z4 := Tryd.sizeOf4
  v4 := Tryd.zeroValue4
  t5 := Tryd.underlying5
  a5 := Tryd.isAgg5
  z5 := Tryd.sizeOf5
  v5 := Tryd.zeroValue5
  t9 := Tryd.underlying9
  a9 := Tryd.isAgg9
  z9 := Tryd.sizeOf9
  v9 := Tryd.zeroValue9
  t20 := Tryd.underlying20
  a20 := Tryd.isAgg20
  z20 := Tryd.sizeOf20
  v20 := Tryd.zeroValue20
  t37 := Tryd.underlying82
  a37 := Tryd.isAgg82
  z37 := Tryd.sizeOf82
  v37 := Tryd.zeroValue82
  t46 := Tryd.underlying75
  a46 := Tryd.isAgg75
  z46 := Tryd.sizeOf75
  v46 := Tryd.zeroValue75
  t51 := Tryd.underlying123
  a51 := Tryd.isAgg123
  z51 := Tryd.sizeOf123
  v51 := Tryd.zeroValue123
  t53 := Tryd.underlying102
  a53 := Tryd.isAgg102
  z53 := Tryd.sizeOf102
  v53 := Tryd.zeroValue102
  t171 := Tryd.underlying101
  a171 := Tryd.isAgg101
  z171 := Tryd.sizeOf101
  v171 := Tryd.zeroValue101
  t173 := Tryd.underlying105
  a173 := Tryd.isAgg105
  z173 := Tryd.sizeOf105
  v173 := Tryd.zeroValue105
  t212 := Tryd.underlying122
  a212 := Tryd.isAgg122
  z212 := Tryd.sizeOf122
  v212 := Tryd.zeroValue122
  t213 := Tryd.underlying124
  a213 := Tryd.isAgg124
  z213 := Tryd.sizeOf124
  t232 := Tryd.underlying137
  a232 := Tryd.isAgg137
  z232 := Tryd.sizeOf137
  v232 := Tryd.zeroValue137
  t233 := Tryd.underlying138
  a233 := Tryd.isAgg138
  z233 := Tryd.sizeOf138
  v233 := Tryd.zeroValue138
  g17 := by kernel_rfl
  g18 := by kernel_rfl
  g19 := by kernel_rfl }
open Go.RowKit Go.Sort Go.Lib in
theorem sh_strconv_Itoa_small (i : Nat) (hi : i < 100) (w : World) :
    Calls Tryd.prog 28 #[.int .i64 i] w fun e w' => e = .returned (.string ⟨(Lib.decDigits i).toArray⟩) ∧ w' = w := Any.strconv_Itoa_small sh_lays171 i hi w
def sh_lays219_ren : Go.Shelf.Ren := ⟨fun | 219 => 69 | 217 => 84 | 225 => 85 | 224 => 86 | 267 => 87 | 266 => 99 | 314 => 100 | n => n, fun | 9 => 9 | 3 => 3 | 4 => 4 | 5 => 5 | 46 => 75 | 146 => 128 | 51 => 123 | n => n, fun | 1 => 0 | n => n⟩
theorem sh_lays219 : Go.Proofs.Lays.n219 Tryd.prog sh_lays219_ren := {
  mixed := by kernel_rfl
  f217 := Tryd.func84.trans (congrArg some (by kernel_rfl))
  f219 := Tryd.func69.trans (congrArg some (by kernel_rfl))
  f224 := Tryd.func86.trans (congrArg some (by kernel_rfl))
  f225 := Tryd.func85.trans (congrArg some (by kernel_rfl))
  f266 := Tryd.func99.trans (congrArg some (by kernel_rfl))
  f267 := Tryd.func87.trans (congrArg some (by kernel_rfl))
  f314 := Tryd.func100.trans (congrArg some (by kernel_rfl))
  t3 := Tryd.underlying3
  a3 := Tryd.isAgg3
  z3 := Tryd.sizeOf3
  v3 := Tryd.zeroValue3
  t4 := Tryd.underlying4
  a4 := Tryd.isAgg4
  z4 := Tryd.sizeOf4
  v4 := Tryd.zeroValue4
  t5 := Tryd.underlying5
  a5 := Tryd.isAgg5
  z5 := Tryd.sizeOf5
  v5 := Tryd.zeroValue5
  t9 := Tryd.underlying9
  a9 := Tryd.isAgg9
  z9 := Tryd.sizeOf9
  v9 := Tryd.zeroValue9
  t46 := Tryd.underlying75
  a46 := Tryd.isAgg75
  z46 := Tryd.sizeOf75
  v46 := Tryd.zeroValue75
  t51 := Tryd.underlying123
  a51 := Tryd.isAgg123
  z51 := Tryd.sizeOf123
  v51 := Tryd.zeroValue123
  t146 := Tryd.underlying128
  a146 := Tryd.isAgg128
  z146 := Tryd.sizeOf128
  v146 := Tryd.zeroValue128
  g1 := by kernel_rfl }
open Go.RowKit Go.Lib in
theorem sh_stringslite_Index_one (s : ByteArray) (c : UInt8) (w : World) :
    Calls Tryd.prog 69 #[.string s, .string ⟨#[c]⟩] w fun e w' => e = .returned (.int .i64 (Lib.indexByte s.data.toList c)) ∧ w' = w := Any.stringslite_Index_one sh_lays219 s c w
def sh_lays172_ren : Go.Shelf.Ren := ⟨fun | 172 => 35 | 244 => 59 | 245 => 60 | 247 => 70 | 279 => 71 | 280 => 72 | 281 => 73 | 282 => 74 | 287 => 88 | 316 => 89 | 171 => 28 | 205 => 90 | 321 => 101 | 322 => 102 | 243 => 52 | 246 => 65 | 283 => 75 | 284 => 76 | 285 => 77 | 286 => 78 | 129 => 92 | 317 => 91 | 318 => 93 | 319 => 94 | 320 => 95 | 337 => 103 | 338 => 104 | n => n, fun | 9 => 9 | 3 => 3 | 75 => 29 | 76 => 71 | 4 => 4 | 5 => 5 | 167 => 95 | 37 => 82 | 0 => 0 | 85 => 96 | 2 => 2 | 168 => 98 | 53 => 102 | 175 => 115 | 46 => 75 | 210 => 119 | 127 => 131 | 145 => 134 | 143 => 132 | 21 => 21 | 171 => 101 | 173 => 105 | 212 => 122 | 51 => 123 | 20 => 20 | 213 => 124 | 232 => 137 | 233 => 138 | 80 => 139 | n => n, fun | 15 => 1 | 16 => 2 | 17 => 3 | 18 => 4 | 19 => 5 | n => n⟩
theorem sh_lays172 : Go.Proofs.Lays.n172 Tryd.prog sh_lays172_ren := {
  mixed := by kernel_rfl
  f129 := Tryd.func92.trans (congrArg some (by kernel_rfl))
  f171 := Tryd.func28.trans (congrArg some (by kernel_rfl))
  f172 := Tryd.func35.trans (congrArg some (by kernel_rfl))
  f205 := Tryd.func90.trans (congrArg some (by kernel_rfl))
  f243 := Tryd.func52.trans (congrArg some (by kernel_rfl))
  f244 := Tryd.func59.trans (congrArg some (by kernel_rfl))
  f245 := Tryd.func60.trans (congrArg some (by kernel_rfl))
  f246 := Tryd.func65.trans (congrArg some (by kernel_rfl))
  f247 := Tryd.func70.trans (congrArg some (by kernel_rfl))
  f279 := Tryd.func71.trans (congrArg some (by kernel_rfl))
  f280 := Tryd.func72.trans (congrArg some (by kernel_rfl))
  f281 := Tryd.func73.trans (congrArg some (by kernel_rfl))
  f282 := Tryd.func74.trans (congrArg some (by kernel_rfl))
  f283 := Tryd.func75.trans (congrArg some (by kernel_rfl))
  f284 := Tryd.func76.trans (congrArg some (by kernel_rfl))
  f285 := Tryd.func77.trans (congrArg some (by kernel_rfl))
  f286 := Tryd.func78.trans (congrArg some (by kernel_rfl))
  f287 := Tryd.func88.trans (congrArg some (by kernel_rfl))
  f316 := Tryd.func89.trans (congrArg some (by kernel_rfl))
  f317 := Tryd.func91.trans (congrArg some (by kernel_rfl))
  f318 := Tryd.func93.trans (congrArg some (by kernel_rfl))
  f319 := Tryd.func94.trans (congrArg some (by kernel_rfl))
  f320 := Tryd.func95.trans (congrArg some (by kernel_rfl))
  f321 := Tryd.func101.trans (congrArg some (by kernel_rfl))
  f322 := Tryd.func102.trans (congrArg some (by kernel_rfl))
  f337 := Tryd.func103.trans (congrArg some (by kernel_rfl))
  f338 := Tryd.func104.trans (congrArg some (by kernel_rfl))
  t0 := Tryd.underlying0
  a0 := Tryd.isAgg0
  z0 := Tryd.sizeOf0
  v0 := Tryd.zeroValue0
  t2 := Tryd.underlying2
  a2 := Tryd.isAgg2
  z2 := Tryd.sizeOf2
  v2 := Tryd.zeroValue2
  t3 := Tryd.underlying3
  a3 := Tryd.isAgg3
  z3 := Tryd.sizeOf3
  v3 := Tryd.zeroValue3
  t4 := Tryd.underlying4
  a4 := Tryd.isAgg4
  z4 := Tryd.sizeOf4
  v4 := Tryd.zeroValue4
  t5 := Tryd.underlying5
  a5 := Tryd.isAgg5
  z5 := Tryd.sizeOf5
  v5 := Tryd.zeroValue5
  t9 := Tryd.underlying9
  a9 := Tryd.isAgg9
  z9 := Tryd.sizeOf9
  v9 := Tryd.zeroValue9
  t20 := Tryd.underlying20
  a20 := Tryd.isAgg20
  z20 := Tryd.sizeOf20
  v20 := Tryd.zeroValue20
  t21 := Tryd.underlying21
  a21 := Tryd.isAgg21
  z21 := Tryd.sizeOf21
  v21 := Tryd.zeroValue21
  t37 := Tryd.underlying82
  a37 := Tryd.isAgg82
  z37 := Tryd.sizeOf82
  v37 := Tryd.zeroValue82
  t46 := Tryd.underlying75
  a46 := Tryd.isAgg75
  z46 := Tryd.sizeOf75
  v46 := Tryd.zeroValue75
  t51 := Tryd.underlying123
  a51 := Tryd.isAgg123
  z51 := Tryd.sizeOf123
  v51 := Tryd.zeroValue123
  t53 := Tryd.underlying102
  a53 := Tryd.isAgg102
  z53 := Tryd.sizeOf102
  v53 := Tryd.zeroValue102
  t75 := Tryd.underlying29
  a75 := Tryd.isAgg29
  z75 := Tryd.sizeOf29
  v75 := Tryd.zeroValue29
  t76 := Tryd.underlying71
  a76 := Tryd.isAgg71
  z76 := Tryd.sizeOf71
  v76 := Tryd.zeroValue71
  t85 := Tryd.underlying96
  a85 := Tryd.isAgg96
  z85 := Tryd.sizeOf96
  v85 := Tryd.zeroValue96
  t127 := Tryd.underlying131
  a127 := Tryd.isAgg131
  z127 := Tryd.sizeOf131
  v127 := Tryd.zeroValue131
  t143 := Tryd.underlying132
  a143 := Tryd.isAgg132
  z143 := Tryd.sizeOf132
  v143 := Tryd.zeroValue132
  t145 := Tryd.underlying134
  a145 := Tryd.isAgg134
  z145 := Tryd.sizeOf134
  v145 := Tryd.zeroValue134
  t167 := Tryd.underlying95
  a167 := Tryd.isAgg95
  z167 := Tryd.sizeOf95
  v167 := Tryd.zeroValue95
  t168 := Tryd.underlying98
  a168 := Tryd.isAgg98
  z168 := Tryd.sizeOf98
  v168 := Tryd.zeroValue98
  t171 := Tryd.underlying101
  a171 := Tryd.isAgg101
  z171 := Tryd.sizeOf101
  v171 := Tryd.zeroValue101
  t173 := Tryd.underlying105
  a173 := Tryd.isAgg105
  z173 := Tryd.sizeOf105
  v173 := Tryd.zeroValue105
  t175 := Tryd.underlying115
  a175 := Tryd.isAgg115
  z175 := Tryd.sizeOf115
  v175 := Tryd.zeroValue115
  t210 := Tryd.underlying119
  a210 := Tryd.isAgg119
  z210 := Tryd.sizeOf119
  v210 := Tryd.zeroValue119
  t212 := Tryd.underlying122
  a212 := Tryd.isAgg122
  z212 := Tryd.sizeOf122
  v212 := Tryd.zeroValue122
  t213 := Tryd.underlying124
  a213 := Tryd.isAgg124
  z213 := Tryd.sizeOf124
  t232 := Tryd.underlying137
  a232 := Tryd.isAgg137
  z232 := Tryd.sizeOf137
  v232 := Tryd.zeroValue137
  t233 := Tryd.underlying138
  a233 := Tryd.isAgg138
  z233 := Tryd.sizeOf138
  v233 := Tryd.zeroValue138
  g15 := by kernel_rfl
  g16 := by kernel_rfl
  g17 := by kernel_rfl
  g18 := by kernel_rfl
  g19 := by kernel_rfl }
open Go.RowKit in
theorem sh_strconv_Atoi (s : ByteArray) (n : Int) (hl : s.size ≤ 18) (h : Lib.atoi s.data.toList = some n) (w : World) :
    Calls Tryd.prog 35 #[.string s] w fun e w' => e = .returned (.tuple #[.int .i64 n, .nilIface]) ∧ ∃ t, w' = Lib.bytesWorld w 5 t := Any.strconv_Atoi sh_lays172 s n hl h w
end Go.Proofs.YtigdoooikfgdfaaDoor
end

section
namespace Go.Proofs.YtigdoooikfgdfaaDoor
open Go.RowKit
set_option linter.unusedVariables false
set_option linter.unusedSimpArgs false

theorem pow_tab {w : World} (hG : E0.globs w) : Lib.TabIs Tryd.prog w "internal/strconv.uint64pow10" .u64 Lib.pow10Tab := by
  have hm : gts.getD 0 (0, [], 0) ∈ E0.gt := List.mem_cons_self
  obtain ⟨T, h⟩ := hG.tab _ hm
  have h : w.heap[3]? = some (.cells (Lib.pow10Tab.map fun z => Value.int .u64 z).toArray T (0, 0)) := h
  unfold Lib.TabIs World.var?
  have hn : Tryd.prog.globalNamed "internal/strconv.uint64pow10" = some 3 := by kernel_rfl
  rw [hn, Option.bind_some, h]
/-- the text of a number from 0 to 999, places aside -/
def itoaG : List PD → Option (List PD)
  | [.int n] => if 0 ≤ n ∧ n < 1000 then some [.str ((Lib.itoa n).map UInt8.toNat)] else none
  | _ => none
def k_sItoa : Nat := 28
def sg_sItoa : Sig := ⟨[(false, [.int .i64])], [(false, [.str])], false, false, false, false, false⟩
noncomputable def tr_sItoa : Tree := walk E0.cx (sgsN []) 0 28 sg_sItoa
theorem wk_sItoa : walk E0.cx (sgsN []) 0 28 sg_sItoa = tr_sItoa := rfl
theorem bo_sItoa : ∃ x, bodyOf E0.P 28 = some x := bo_of (by kernel_rfl)
def sItoa_g := itoaG
def sItoa_s : Spec := psp sItoa_g
theorem below_grew (w : World) (k : Nat) (os : Array Obj) : Below w.heap.size w (Sort.grow (w.drewN k) os) :=
  ⟨rfl, rfl, rfl, by show w.heap.size ≤ (w.heap ++ os).size; rw [Array.size_append]; omega, fun j hj => by
    show (w.heap ++ os)[j]? = _
    exact Array.getElem?_append_left hj⟩
theorem sItoa_h : Holds E0 k_sItoa sg_sItoa sItoa_s := fun w ds Q h1 h2 h3 h4 ⟨rs, hg, hQ⟩ => by
  rcases h1 with _ | ⟨h0, h1⟩
  rcases h1 with _ | _
  cases h0 with
  | int _ n =>
  have hg : (if 0 ≤ n ∧ n < 1000 then some [PD.str ((Lib.itoa n).map UInt8.toNat)] else none) = some rs := by
    have := hg
    rw [List.map_cons, strip_int] at this
    exact this
  split at hg
  case isFalse => cases hg
  rename_i hr
  cases hg
  refine (sh_strconv_Itoa n (by omega) (by omega) w (pow_tab h4)).mono fun e w' ⟨he, k, os, hw⟩ => ?_
  refine ⟨[.val (.string ⟨(Lib.itoa n).toArray⟩)], hQ _ ?_, .cons (.str _) .nil, ?_, fun d hd => by rw [List.mem_singleton.1 hd]; exact .val _, fun k ⟨d, hd, hk⟩ => ?_, ?_⟩
  · rw [List.map_cons, strip_val]; rfl
  · rw [hw]; exact below_grew _ k os
  · rw [List.mem_singleton.1 hd] at hk; cases hk
  · show (if false = true then _ else _)
    rw [if_neg Bool.false_ne_true, he]; rfl
end Go.Proofs.YtigdoooikfgdfaaDoor
end
