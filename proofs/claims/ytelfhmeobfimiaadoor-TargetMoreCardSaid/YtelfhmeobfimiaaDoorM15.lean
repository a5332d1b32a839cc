import Derived.Test.YtelfhmeobfimiaaDoorM14

section
namespace Go.Proofs.YtelfhmeobfimiaaDoor
open Go.RowKit
set_option linter.unusedVariables false
set_option linter.unusedSimpArgs false

def k_tcard : Nat := 31
def sg_tcard : Sig := ⟨[(false, [.int .i64])], [(true, [.int .i64, .int .i64] ++ [.bool] ++ List.replicate 9 (.int .i64) ++ [.list 59]), (false, [.err])], false, true, true, false, false⟩
def tr_tcard : Tree := (.ite (.or (.cmp .lt (.var 0) (.int .i64 0)) (.cmp .ge (.var 0) (.int .i64 120))) (.ret [(.int .i64 0), (.int .i64 0), (.bool false), (.int .i64 0), (.int .i64 0), (.int .i64 0), (.int .i64 0), (.int .i64 0), (.int .i64 0), (.int .i64 0), (.int .i64 0), (.int .i64 0), (.nil 59), (.ifc (.int .i64 4))]) (.ite (.cmp .lt (.var 0) (.int .i64 10)) (.call k_tsource [(.var 0)] [(.int .i64), (.int .i64), .bool, (.int .i64), (.int .i64), (.int .i64), (.int .i64), (.int .i64), (.int .i64), (.int .i64), (.int .i64), (.int .i64), (.list 59)] (.ret [(.var 1), (.var 2), (.var 3), (.var 4), (.var 5), (.var 6), (.var 7), (.var 8), (.var 9), (.var 10), (.var 11), (.var 12), (.var 13), .nili])) (.ite (.cmp .lt (.var 0) (.int .i64 50)) (.call k_tbeast [(.ar .sub .i64 (.var 0) (.int .i64 10))] [(.int .i64), (.int .i64), .bool, (.int .i64), (.int .i64), (.int .i64), (.int .i64), (.int .i64), (.int .i64), (.int .i64), (.int .i64), (.int .i64), (.list 59)] (.ret [(.var 1), (.var 2), (.var 3), (.var 4), (.var 5), (.var 6), (.var 7), (.var 8), (.var 9), (.var 10), (.var 11), (.var 12), (.var 13), .nili])) (.ite (.cmp .lt (.var 0) (.int .i64 80)) (.call k_tcost [(.ar .rem .i64 (.ar .sub .i64 (.var 0) (.int .i64 50)) (.int .i64 5)), (.int .i64 1), (.ar .quo .i64 (.ar .sub .i64 (.var 0) (.int .i64 50)) (.int .i64 5))] [(.int .i64), (.int .i64), (.int .i64), (.int .i64), (.int .i64), (.int .i64)] (.call k_tws [] [(.int .i64), (.int .i64), (.int .i64), (.int .i64), (.int .i64), (.int .i64), (.int .i64), .bool, (.int .i64), (.int .i64), (.int .i64), (.int .i64), (.int .i64), (.list 57), (.int .i64), (.int .i64), (.int .i64), (.int .i64), (.int .i64), (.int .i64), (.int .i64), .bool, (.int .i64), (.int .i64), (.int .i64), (.int .i64), (.int .i64), (.list 57), (.int .i64), (.int .i64), (.int .i64), (.int .i64), (.int .i64), (.int .i64), (.int .i64), .bool, (.int .i64), (.int .i64), (.int .i64), (.int .i64), (.int .i64), (.list 57), (.int .i64), (.int .i64), (.int .i64), (.int .i64), (.int .i64), (.int .i64), (.int .i64), .bool, (.int .i64), (.int .i64), (.int .i64), (.int .i64), (.int .i64), (.list 57), (.int .i64), (.int .i64), (.int .i64), (.int .i64), (.int .i64), (.int .i64), (.int .i64), .bool, (.int .i64), (.int .i64), (.int .i64), (.int .i64), (.int .i64), (.list 57), (.int .i64), (.int .i64), (.int .i64), (.int .i64), (.int .i64), (.int .i64), (.int .i64), .bool, (.int .i64), (.int .i64), (.int .i64), (.int .i64), (.int .i64), (.list 57)] (.call k_tus [] [(.int .i64), (.int .i64), (.int .i64), (.int .i64), (.int .i64), (.int .i64), (.int .i64), .bool, (.int .i64), (.int .i64), (.int .i64), (.int .i64), (.int .i64), (.list 57), (.int .i64), (.int .i64), (.int .i64), (.int .i64), (.int .i64), (.int .i64), (.int .i64), .bool, (.int .i64), (.int .i64), (.int .i64), (.int .i64), (.int .i64), (.list 57), (.int .i64), (.int .i64), (.int .i64), (.int .i64), (.int .i64), (.int .i64), (.int .i64), .bool, (.int .i64), (.int .i64), (.int .i64), (.int .i64), (.int .i64), (.list 57), (.int .i64), (.int .i64), (.int .i64), (.int .i64), (.int .i64), (.int .i64), (.int .i64), .bool, (.int .i64), (.int .i64), (.int .i64), (.int .i64), (.int .i64), (.list 57), (.int .i64), (.int .i64), (.int .i64), (.int .i64), (.int .i64), (.int .i64), (.int .i64), .bool, (.int .i64), (.int .i64), (.int .i64), (.int .i64), (.int .i64), (.list 57), (.int .i64), (.int .i64), (.int .i64), (.int .i64), (.int .i64), (.int .i64), (.int .i64), .bool, (.int .i64), (.int .i64), (.int .i64), (.int .i64), (.int .i64), (.list 57)] (.call k_tbs [] [(.int .i64), (.int .i64), (.int .i64), (.int .i64), (.int .i64), (.int .i64), (.int .i64), .bool, (.int .i64), (.int .i64), (.int .i64), (.int .i64), (.int .i64), (.list 57), (.int .i64), (.int .i64), (.int .i64), (.int .i64), (.int .i64), (.int .i64), (.int .i64), .bool, (.int .i64), (.int .i64), (.int .i64), (.int .i64), (.int .i64), (.list 57), (.int .i64), (.int .i64), (.int .i64), (.int .i64), (.int .i64), (.int .i64), (.int .i64), .bool, (.int .i64), (.int .i64), (.int .i64), (.int .i64), (.int .i64), (.list 57), (.int .i64), (.int .i64), (.int .i64), (.int .i64), (.int .i64), (.int .i64), (.int .i64), .bool, (.int .i64), (.int .i64), (.int .i64), (.int .i64), (.int .i64), (.list 57), (.int .i64), (.int .i64), (.int .i64), (.int .i64), (.int .i64), (.int .i64), (.int .i64), .bool, (.int .i64), (.int .i64), (.int .i64), (.int .i64), (.int .i64), (.list 57), (.int .i64), (.int .i64), (.int .i64), (.int .i64), (.int .i64), (.int .i64), (.int .i64), .bool, (.int .i64), (.int .i64), (.int .i64), (.int .i64), (.int .i64), (.list 57)] (.call k_trs [] [(.int .i64), (.int .i64), (.int .i64), (.int .i64), (.int .i64), (.int .i64), (.int .i64), .bool, (.int .i64), (.int .i64), (.int .i64), (.int .i64), (.int .i64), (.list 57), (.int .i64), (.int .i64), (.int .i64), (.int .i64), (.int .i64), (.int .i64), (.int .i64), .bool, (.int .i64), (.int .i64), (.int .i64), (.int .i64), (.int .i64), (.list 57), (.int .i64), (.int .i64), (.int .i64), (.int .i64), (.int .i64), (.int .i64), (.int .i64), .bool, (.int .i64), (.int .i64), (.int .i64), (.int .i64), (.int .i64), (.list 57), (.int .i64), (.int .i64), (.int .i64), (.int .i64), (.int .i64), (.int .i64), (.int .i64), .bool, (.int .i64), (.int .i64), (.int .i64), (.int .i64), (.int .i64), (.list 57), (.int .i64), (.int .i64), (.int .i64), (.int .i64), (.int .i64), (.int .i64), (.int .i64), .bool, (.int .i64), (.int .i64), (.int .i64), (.int .i64), (.int .i64), (.list 57), (.int .i64), (.int .i64), (.int .i64), (.int .i64), (.int .i64), (.int .i64), (.int .i64), .bool, (.int .i64), (.int .i64), (.int .i64), (.int .i64), (.int .i64), (.list 57)] (.call k_tgs [] [(.int .i64), (.int .i64), (.int .i64), (.int .i64), (.int .i64), (.int .i64), (.int .i64), .bool, (.int .i64), (.int .i64), (.int .i64), (.int .i64), (.int .i64), (.list 57), (.int .i64), (.int .i64), (.int .i64), (.int .i64), (.int .i64), (.int .i64), (.int .i64), .bool, (.int .i64), (.int .i64), (.int .i64), (.int .i64), (.int .i64), (.list 57), (.int .i64), (.int .i64), (.int .i64), (.int .i64), (.int .i64), (.int .i64), (.int .i64), .bool, (.int .i64), (.int .i64), (.int .i64), (.int .i64), (.int .i64), (.list 57), (.int .i64), (.int .i64), (.int .i64), (.int .i64), (.int .i64), (.int .i64), (.int .i64), .bool, (.int .i64), (.int .i64), (.int .i64), (.int .i64), (.int .i64), (.list 57), (.int .i64), (.int .i64), (.int .i64), (.int .i64), (.int .i64), (.int .i64), (.int .i64), .bool, (.int .i64), (.int .i64), (.int .i64), (.int .i64), (.int .i64), (.list 57), (.int .i64), (.int .i64), (.int .i64), (.int .i64), (.int .i64), (.int .i64), (.int .i64), .bool, (.int .i64), (.int .i64), (.int .i64), (.int .i64), (.int .i64), (.list 57)] (.ob (.cmp .ge (.ar .rem .i64 (.ar .sub .i64 (.var 0) (.int .i64 50)) (.int .i64 5)) (.int .i64 0)) (.ob (.cmp .lt (.ar .rem .i64 (.ar .sub .i64 (.var 0) (.int .i64 50)) (.int .i64 5)) (.int .i64 5)) (.ob (.cmp .ge (.ar .quo .i64 (.ar .sub .i64 (.var 0) (.int .i64 50)) (.int .i64 5)) (.int .i64 0)) (.ob (.cmp .lt (.ar .quo .i64 (.ar .sub .i64 (.var 0) (.int .i64 50)) (.int .i64 5)) (.int .i64 6)) (.share 59 (.push .emp (.econs (.sel (.econs (.sel (.econs (.var 7) (.econs (.var 91) (.econs (.var 175) (.econs (.var 259) (.econs (.var 343) .enil))))) (.ar .rem .i64 (.ar .sub .i64 (.var 0) (.int .i64 50)) (.int .i64 5)) (.int .i64)) (.econs (.sel (.econs (.var 21) (.econs (.var 105) (.econs (.var 189) (.econs (.var 273) (.econs (.var 357) .enil))))) (.ar .rem .i64 (.ar .sub .i64 (.var 0) (.int .i64 50)) (.int .i64 5)) (.int .i64)) (.econs (.sel (.econs (.var 35) (.econs (.var 119) (.econs (.var 203) (.econs (.var 287) (.econs (.var 371) .enil))))) (.ar .rem .i64 (.ar .sub .i64 (.var 0) (.int .i64 50)) (.int .i64 5)) (.int .i64)) (.econs (.sel (.econs (.var 49) (.econs (.var 133) (.econs (.var 217) (.econs (.var 301) (.econs (.var 385) .enil))))) (.ar .rem .i64 (.ar .sub .i64 (.var 0) (.int .i64 50)) (.int .i64 5)) (.int .i64)) (.econs (.sel (.econs (.var 63) (.econs (.var 147) (.econs (.var 231) (.econs (.var 315) (.econs (.var 399) .enil))))) (.ar .rem .i64 (.ar .sub .i64 (.var 0) (.int .i64 50)) (.int .i64 5)) (.int .i64)) (.econs (.sel (.econs (.var 77) (.econs (.var 161) (.econs (.var 245) (.econs (.var 329) (.econs (.var 413) .enil))))) (.ar .rem .i64 (.ar .sub .i64 (.var 0) (.int .i64 50)) (.int .i64 5)) (.int .i64)) .enil)))))) (.ar .quo .i64 (.ar .sub .i64 (.var 0) (.int .i64 50)) (.int .i64 5)) (.int .i64)) (.econs (.sel (.econs (.sel (.econs (.var 8) (.econs (.var 92) (.econs (.var 176) (.econs (.var 260) (.econs (.var 344) .enil))))) (.ar .rem .i64 (.ar .sub .i64 (.var 0) (.int .i64 50)) (.int .i64 5)) (.int .i64)) (.econs (.sel (.econs (.var 22) (.econs (.var 106) (.econs (.var 190) (.econs (.var 274) (.econs (.var 358) .enil))))) (.ar .rem .i64 (.ar .sub .i64 (.var 0) (.int .i64 50)) (.int .i64 5)) (.int .i64)) (.econs (.sel (.econs (.var 36) (.econs (.var 120) (.econs (.var 204) (.econs (.var 288) (.econs (.var 372) .enil))))) (.ar .rem .i64 (.ar .sub .i64 (.var 0) (.int .i64 50)) (.int .i64 5)) (.int .i64)) (.econs (.sel (.econs (.var 50) (.econs (.var 134) (.econs (.var 218) (.econs (.var 302) (.econs (.var 386) .enil))))) (.ar .rem .i64 (.ar .sub .i64 (.var 0) (.int .i64 50)) (.int .i64 5)) (.int .i64)) (.econs (.sel (.econs (.var 64) (.econs (.var 148) (.econs (.var 232) (.econs (.var 316) (.econs (.var 400) .enil))))) (.ar .rem .i64 (.ar .sub .i64 (.var 0) (.int .i64 50)) (.int .i64 5)) (.int .i64)) (.econs (.sel (.econs (.var 78) (.econs (.var 162) (.econs (.var 246) (.econs (.var 330) (.econs (.var 414) .enil))))) (.ar .rem .i64 (.ar .sub .i64 (.var 0) (.int .i64 50)) (.int .i64 5)) (.int .i64)) .enil)))))) (.ar .quo .i64 (.ar .sub .i64 (.var 0) (.int .i64 50)) (.int .i64 5)) (.int .i64)) (.econs (.sel (.econs (.sel (.econs (.var 9) (.econs (.var 93) (.econs (.var 177) (.econs (.var 261) (.econs (.var 345) .enil))))) (.ar .rem .i64 (.ar .sub .i64 (.var 0) (.int .i64 50)) (.int .i64 5)) (.int .i64)) (.econs (.sel (.econs (.var 23) (.econs (.var 107) (.econs (.var 191) (.econs (.var 275) (.econs (.var 359) .enil))))) (.ar .rem .i64 (.ar .sub .i64 (.var 0) (.int .i64 50)) (.int .i64 5)) (.int .i64)) (.econs (.sel (.econs (.var 37) (.econs (.var 121) (.econs (.var 205) (.econs (.var 289) (.econs (.var 373) .enil))))) (.ar .rem .i64 (.ar .sub .i64 (.var 0) (.int .i64 50)) (.int .i64 5)) (.int .i64)) (.econs (.sel (.econs (.var 51) (.econs (.var 135) (.econs (.var 219) (.econs (.var 303) (.econs (.var 387) .enil))))) (.ar .rem .i64 (.ar .sub .i64 (.var 0) (.int .i64 50)) (.int .i64 5)) (.int .i64)) (.econs (.sel (.econs (.var 65) (.econs (.var 149) (.econs (.var 233) (.econs (.var 317) (.econs (.var 401) .enil))))) (.ar .rem .i64 (.ar .sub .i64 (.var 0) (.int .i64 50)) (.int .i64 5)) (.int .i64)) (.econs (.sel (.econs (.var 79) (.econs (.var 163) (.econs (.var 247) (.econs (.var 331) (.econs (.var 415) .enil))))) (.ar .rem .i64 (.ar .sub .i64 (.var 0) (.int .i64 50)) (.int .i64 5)) (.int .i64)) .enil)))))) (.ar .quo .i64 (.ar .sub .i64 (.var 0) (.int .i64 50)) (.int .i64 5)) (.int .i64)) (.econs (.sel (.econs (.sel (.econs (.var 10) (.econs (.var 94) (.econs (.var 178) (.econs (.var 262) (.econs (.var 346) .enil))))) (.ar .rem .i64 (.ar .sub .i64 (.var 0) (.int .i64 50)) (.int .i64 5)) (.int .i64)) (.econs (.sel (.econs (.var 24) (.econs (.var 108) (.econs (.var 192) (.econs (.var 276) (.econs (.var 360) .enil))))) (.ar .rem .i64 (.ar .sub .i64 (.var 0) (.int .i64 50)) (.int .i64 5)) (.int .i64)) (.econs (.sel (.econs (.var 38) (.econs (.var 122) (.econs (.var 206) (.econs (.var 290) (.econs (.var 374) .enil))))) (.ar .rem .i64 (.ar .sub .i64 (.var 0) (.int .i64 50)) (.int .i64 5)) (.int .i64)) (.econs (.sel (.econs (.var 52) (.econs (.var 136) (.econs (.var 220) (.econs (.var 304) (.econs (.var 388) .enil))))) (.ar .rem .i64 (.ar .sub .i64 (.var 0) (.int .i64 50)) (.int .i64 5)) (.int .i64)) (.econs (.sel (.econs (.var 66) (.econs (.var 150) (.econs (.var 234) (.econs (.var 318) (.econs (.var 402) .enil))))) (.ar .rem .i64 (.ar .sub .i64 (.var 0) (.int .i64 50)) (.int .i64 5)) (.int .i64)) (.econs (.sel (.econs (.var 80) (.econs (.var 164) (.econs (.var 248) (.econs (.var 332) (.econs (.var 416) .enil))))) (.ar .rem .i64 (.ar .sub .i64 (.var 0) (.int .i64 50)) (.int .i64 5)) (.int .i64)) .enil)))))) (.ar .quo .i64 (.ar .sub .i64 (.var 0) (.int .i64 50)) (.int .i64 5)) (.int .i64)) (.econs (.sel (.econs (.sel (.econs (.var 11) (.econs (.var 95) (.econs (.var 179) (.econs (.var 263) (.econs (.var 347) .enil))))) (.ar .rem .i64 (.ar .sub .i64 (.var 0) (.int .i64 50)) (.int .i64 5)) (.int .i64)) (.econs (.sel (.econs (.var 25) (.econs (.var 109) (.econs (.var 193) (.econs (.var 277) (.econs (.var 361) .enil))))) (.ar .rem .i64 (.ar .sub .i64 (.var 0) (.int .i64 50)) (.int .i64 5)) (.int .i64)) (.econs (.sel (.econs (.var 39) (.econs (.var 123) (.econs (.var 207) (.econs (.var 291) (.econs (.var 375) .enil))))) (.ar .rem .i64 (.ar .sub .i64 (.var 0) (.int .i64 50)) (.int .i64 5)) (.int .i64)) (.econs (.sel (.econs (.var 53) (.econs (.var 137) (.econs (.var 221) (.econs (.var 305) (.econs (.var 389) .enil))))) (.ar .rem .i64 (.ar .sub .i64 (.var 0) (.int .i64 50)) (.int .i64 5)) (.int .i64)) (.econs (.sel (.econs (.var 67) (.econs (.var 151) (.econs (.var 235) (.econs (.var 319) (.econs (.var 403) .enil))))) (.ar .rem .i64 (.ar .sub .i64 (.var 0) (.int .i64 50)) (.int .i64 5)) (.int .i64)) (.econs (.sel (.econs (.var 81) (.econs (.var 165) (.econs (.var 249) (.econs (.var 333) (.econs (.var 417) .enil))))) (.ar .rem .i64 (.ar .sub .i64 (.var 0) (.int .i64 50)) (.int .i64 5)) (.int .i64)) .enil)))))) (.ar .quo .i64 (.ar .sub .i64 (.var 0) (.int .i64 50)) (.int .i64 5)) (.int .i64)) (.econs (.sel (.econs (.sel (.econs (.var 12) (.econs (.var 96) (.econs (.var 180) (.econs (.var 264) (.econs (.var 348) .enil))))) (.ar .rem .i64 (.ar .sub .i64 (.var 0) (.int .i64 50)) (.int .i64 5)) (.int .i64)) (.econs (.sel (.econs (.var 26) (.econs (.var 110) (.econs (.var 194) (.econs (.var 278) (.econs (.var 362) .enil))))) (.ar .rem .i64 (.ar .sub .i64 (.var 0) (.int .i64 50)) (.int .i64 5)) (.int .i64)) (.econs (.sel (.econs (.var 40) (.econs (.var 124) (.econs (.var 208) (.econs (.var 292) (.econs (.var 376) .enil))))) (.ar .rem .i64 (.ar .sub .i64 (.var 0) (.int .i64 50)) (.int .i64 5)) (.int .i64)) (.econs (.sel (.econs (.var 54) (.econs (.var 138) (.econs (.var 222) (.econs (.var 306) (.econs (.var 390) .enil))))) (.ar .rem .i64 (.ar .sub .i64 (.var 0) (.int .i64 50)) (.int .i64 5)) (.int .i64)) (.econs (.sel (.econs (.var 68) (.econs (.var 152) (.econs (.var 236) (.econs (.var 320) (.econs (.var 404) .enil))))) (.ar .rem .i64 (.ar .sub .i64 (.var 0) (.int .i64 50)) (.int .i64 5)) (.int .i64)) (.econs (.sel (.econs (.var 82) (.econs (.var 166) (.econs (.var 250) (.econs (.var 334) (.econs (.var 418) .enil))))) (.ar .rem .i64 (.ar .sub .i64 (.var 0) (.int .i64 50)) (.int .i64 5)) (.int .i64)) .enil)))))) (.ar .quo .i64 (.ar .sub .i64 (.var 0) (.int .i64 50)) (.int .i64 5)) (.int .i64)) (.econs (.sel (.econs (.sel (.econs (.var 13) (.econs (.var 97) (.econs (.var 181) (.econs (.var 265) (.econs (.var 349) .enil))))) (.ar .rem .i64 (.ar .sub .i64 (.var 0) (.int .i64 50)) (.int .i64 5)) (.int .i64)) (.econs (.sel (.econs (.var 27) (.econs (.var 111) (.econs (.var 195) (.econs (.var 279) (.econs (.var 363) .enil))))) (.ar .rem .i64 (.ar .sub .i64 (.var 0) (.int .i64 50)) (.int .i64 5)) (.int .i64)) (.econs (.sel (.econs (.var 41) (.econs (.var 125) (.econs (.var 209) (.econs (.var 293) (.econs (.var 377) .enil))))) (.ar .rem .i64 (.ar .sub .i64 (.var 0) (.int .i64 50)) (.int .i64 5)) (.int .i64)) (.econs (.sel (.econs (.var 55) (.econs (.var 139) (.econs (.var 223) (.econs (.var 307) (.econs (.var 391) .enil))))) (.ar .rem .i64 (.ar .sub .i64 (.var 0) (.int .i64 50)) (.int .i64 5)) (.int .i64)) (.econs (.sel (.econs (.var 69) (.econs (.var 153) (.econs (.var 237) (.econs (.var 321) (.econs (.var 405) .enil))))) (.ar .rem .i64 (.ar .sub .i64 (.var 0) (.int .i64 50)) (.int .i64 5)) (.int .i64)) (.econs (.sel (.econs (.var 83) (.econs (.var 167) (.econs (.var 251) (.econs (.var 335) (.econs (.var 419) .enil))))) (.ar .rem .i64 (.ar .sub .i64 (.var 0) (.int .i64 50)) (.int .i64 5)) (.int .i64)) .enil)))))) (.ar .quo .i64 (.ar .sub .i64 (.var 0) (.int .i64 50)) (.int .i64 5)) (.int .i64)) (.econs (.sel (.econs (.sel (.econs (.var 14) (.econs (.var 98) (.econs (.var 182) (.econs (.var 266) (.econs (.var 350) .enil))))) (.ar .rem .i64 (.ar .sub .i64 (.var 0) (.int .i64 50)) (.int .i64 5)) .bool) (.econs (.sel (.econs (.var 28) (.econs (.var 112) (.econs (.var 196) (.econs (.var 280) (.econs (.var 364) .enil))))) (.ar .rem .i64 (.ar .sub .i64 (.var 0) (.int .i64 50)) (.int .i64 5)) .bool) (.econs (.sel (.econs (.var 42) (.econs (.var 126) (.econs (.var 210) (.econs (.var 294) (.econs (.var 378) .enil))))) (.ar .rem .i64 (.ar .sub .i64 (.var 0) (.int .i64 50)) (.int .i64 5)) .bool) (.econs (.sel (.econs (.var 56) (.econs (.var 140) (.econs (.var 224) (.econs (.var 308) (.econs (.var 392) .enil))))) (.ar .rem .i64 (.ar .sub .i64 (.var 0) (.int .i64 50)) (.int .i64 5)) .bool) (.econs (.sel (.econs (.var 70) (.econs (.var 154) (.econs (.var 238) (.econs (.var 322) (.econs (.var 406) .enil))))) (.ar .rem .i64 (.ar .sub .i64 (.var 0) (.int .i64 50)) (.int .i64 5)) .bool) (.econs (.sel (.econs (.var 84) (.econs (.var 168) (.econs (.var 252) (.econs (.var 336) (.econs (.var 420) .enil))))) (.ar .rem .i64 (.ar .sub .i64 (.var 0) (.int .i64 50)) (.int .i64 5)) .bool) .enil)))))) (.ar .quo .i64 (.ar .sub .i64 (.var 0) (.int .i64 50)) (.int .i64 5)) .bool) (.econs (.sel (.econs (.sel (.econs (.var 15) (.econs (.var 99) (.econs (.var 183) (.econs (.var 267) (.econs (.var 351) .enil))))) (.ar .rem .i64 (.ar .sub .i64 (.var 0) (.int .i64 50)) (.int .i64 5)) (.int .i64)) (.econs (.sel (.econs (.var 29) (.econs (.var 113) (.econs (.var 197) (.econs (.var 281) (.econs (.var 365) .enil))))) (.ar .rem .i64 (.ar .sub .i64 (.var 0) (.int .i64 50)) (.int .i64 5)) (.int .i64)) (.econs (.sel (.econs (.var 43) (.econs (.var 127) (.econs (.var 211) (.econs (.var 295) (.econs (.var 379) .enil))))) (.ar .rem .i64 (.ar .sub .i64 (.var 0) (.int .i64 50)) (.int .i64 5)) (.int .i64)) (.econs (.sel (.econs (.var 57) (.econs (.var 141) (.econs (.var 225) (.econs (.var 309) (.econs (.var 393) .enil))))) (.ar .rem .i64 (.ar .sub .i64 (.var 0) (.int .i64 50)) (.int .i64 5)) (.int .i64)) (.econs (.sel (.econs (.var 71) (.econs (.var 155) (.econs (.var 239) (.econs (.var 323) (.econs (.var 407) .enil))))) (.ar .rem .i64 (.ar .sub .i64 (.var 0) (.int .i64 50)) (.int .i64 5)) (.int .i64)) (.econs (.sel (.econs (.var 85) (.econs (.var 169) (.econs (.var 253) (.econs (.var 337) (.econs (.var 421) .enil))))) (.ar .rem .i64 (.ar .sub .i64 (.var 0) (.int .i64 50)) (.int .i64 5)) (.int .i64)) .enil)))))) (.ar .quo .i64 (.ar .sub .i64 (.var 0) (.int .i64 50)) (.int .i64 5)) (.int .i64)) (.econs (.sel (.econs (.sel (.econs (.var 16) (.econs (.var 100) (.econs (.var 184) (.econs (.var 268) (.econs (.var 352) .enil))))) (.ar .rem .i64 (.ar .sub .i64 (.var 0) (.int .i64 50)) (.int .i64 5)) (.int .i64)) (.econs (.sel (.econs (.var 30) (.econs (.var 114) (.econs (.var 198) (.econs (.var 282) (.econs (.var 366) .enil))))) (.ar .rem .i64 (.ar .sub .i64 (.var 0) (.int .i64 50)) (.int .i64 5)) (.int .i64)) (.econs (.sel (.econs (.var 44) (.econs (.var 128) (.econs (.var 212) (.econs (.var 296) (.econs (.var 380) .enil))))) (.ar .rem .i64 (.ar .sub .i64 (.var 0) (.int .i64 50)) (.int .i64 5)) (.int .i64)) (.econs (.sel (.econs (.var 58) (.econs (.var 142) (.econs (.var 226) (.econs (.var 310) (.econs (.var 394) .enil))))) (.ar .rem .i64 (.ar .sub .i64 (.var 0) (.int .i64 50)) (.int .i64 5)) (.int .i64)) (.econs (.sel (.econs (.var 72) (.econs (.var 156) (.econs (.var 240) (.econs (.var 324) (.econs (.var 408) .enil))))) (.ar .rem .i64 (.ar .sub .i64 (.var 0) (.int .i64 50)) (.int .i64 5)) (.int .i64)) (.econs (.sel (.econs (.var 86) (.econs (.var 170) (.econs (.var 254) (.econs (.var 338) (.econs (.var 422) .enil))))) (.ar .rem .i64 (.ar .sub .i64 (.var 0) (.int .i64 50)) (.int .i64 5)) (.int .i64)) .enil)))))) (.ar .quo .i64 (.ar .sub .i64 (.var 0) (.int .i64 50)) (.int .i64 5)) (.int .i64)) (.econs (.sel (.econs (.sel (.econs (.var 17) (.econs (.var 101) (.econs (.var 185) (.econs (.var 269) (.econs (.var 353) .enil))))) (.ar .rem .i64 (.ar .sub .i64 (.var 0) (.int .i64 50)) (.int .i64 5)) (.int .i64)) (.econs (.sel (.econs (.var 31) (.econs (.var 115) (.econs (.var 199) (.econs (.var 283) (.econs (.var 367) .enil))))) (.ar .rem .i64 (.ar .sub .i64 (.var 0) (.int .i64 50)) (.int .i64 5)) (.int .i64)) (.econs (.sel (.econs (.var 45) (.econs (.var 129) (.econs (.var 213) (.econs (.var 297) (.econs (.var 381) .enil))))) (.ar .rem .i64 (.ar .sub .i64 (.var 0) (.int .i64 50)) (.int .i64 5)) (.int .i64)) (.econs (.sel (.econs (.var 59) (.econs (.var 143) (.econs (.var 227) (.econs (.var 311) (.econs (.var 395) .enil))))) (.ar .rem .i64 (.ar .sub .i64 (.var 0) (.int .i64 50)) (.int .i64 5)) (.int .i64)) (.econs (.sel (.econs (.var 73) (.econs (.var 157) (.econs (.var 241) (.econs (.var 325) (.econs (.var 409) .enil))))) (.ar .rem .i64 (.ar .sub .i64 (.var 0) (.int .i64 50)) (.int .i64 5)) (.int .i64)) (.econs (.sel (.econs (.var 87) (.econs (.var 171) (.econs (.var 255) (.econs (.var 339) (.econs (.var 423) .enil))))) (.ar .rem .i64 (.ar .sub .i64 (.var 0) (.int .i64 50)) (.int .i64 5)) (.int .i64)) .enil)))))) (.ar .quo .i64 (.ar .sub .i64 (.var 0) (.int .i64 50)) (.int .i64 5)) (.int .i64)) (.econs (.sel (.econs (.sel (.econs (.var 18) (.econs (.var 102) (.econs (.var 186) (.econs (.var 270) (.econs (.var 354) .enil))))) (.ar .rem .i64 (.ar .sub .i64 (.var 0) (.int .i64 50)) (.int .i64 5)) (.int .i64)) (.econs (.sel (.econs (.var 32) (.econs (.var 116) (.econs (.var 200) (.econs (.var 284) (.econs (.var 368) .enil))))) (.ar .rem .i64 (.ar .sub .i64 (.var 0) (.int .i64 50)) (.int .i64 5)) (.int .i64)) (.econs (.sel (.econs (.var 46) (.econs (.var 130) (.econs (.var 214) (.econs (.var 298) (.econs (.var 382) .enil))))) (.ar .rem .i64 (.ar .sub .i64 (.var 0) (.int .i64 50)) (.int .i64 5)) (.int .i64)) (.econs (.sel (.econs (.var 60) (.econs (.var 144) (.econs (.var 228) (.econs (.var 312) (.econs (.var 396) .enil))))) (.ar .rem .i64 (.ar .sub .i64 (.var 0) (.int .i64 50)) (.int .i64 5)) (.int .i64)) (.econs (.sel (.econs (.var 74) (.econs (.var 158) (.econs (.var 242) (.econs (.var 326) (.econs (.var 410) .enil))))) (.ar .rem .i64 (.ar .sub .i64 (.var 0) (.int .i64 50)) (.int .i64 5)) (.int .i64)) (.econs (.sel (.econs (.var 88) (.econs (.var 172) (.econs (.var 256) (.econs (.var 340) (.econs (.var 424) .enil))))) (.ar .rem .i64 (.ar .sub .i64 (.var 0) (.int .i64 50)) (.int .i64 5)) (.int .i64)) .enil)))))) (.ar .quo .i64 (.ar .sub .i64 (.var 0) (.int .i64 50)) (.int .i64 5)) (.int .i64)) (.econs (.sel (.econs (.sel (.econs (.var 19) (.econs (.var 103) (.econs (.var 187) (.econs (.var 271) (.econs (.var 355) .enil))))) (.ar .rem .i64 (.ar .sub .i64 (.var 0) (.int .i64 50)) (.int .i64 5)) (.int .i64)) (.econs (.sel (.econs (.var 33) (.econs (.var 117) (.econs (.var 201) (.econs (.var 285) (.econs (.var 369) .enil))))) (.ar .rem .i64 (.ar .sub .i64 (.var 0) (.int .i64 50)) (.int .i64 5)) (.int .i64)) (.econs (.sel (.econs (.var 47) (.econs (.var 131) (.econs (.var 215) (.econs (.var 299) (.econs (.var 383) .enil))))) (.ar .rem .i64 (.ar .sub .i64 (.var 0) (.int .i64 50)) (.int .i64 5)) (.int .i64)) (.econs (.sel (.econs (.var 61) (.econs (.var 145) (.econs (.var 229) (.econs (.var 313) (.econs (.var 397) .enil))))) (.ar .rem .i64 (.ar .sub .i64 (.var 0) (.int .i64 50)) (.int .i64 5)) (.int .i64)) (.econs (.sel (.econs (.var 75) (.econs (.var 159) (.econs (.var 243) (.econs (.var 327) (.econs (.var 411) .enil))))) (.ar .rem .i64 (.ar .sub .i64 (.var 0) (.int .i64 50)) (.int .i64 5)) (.int .i64)) (.econs (.sel (.econs (.var 89) (.econs (.var 173) (.econs (.var 257) (.econs (.var 341) (.econs (.var 425) .enil))))) (.ar .rem .i64 (.ar .sub .i64 (.var 0) (.int .i64 50)) (.int .i64 5)) (.int .i64)) .enil)))))) (.ar .quo .i64 (.ar .sub .i64 (.var 0) (.int .i64 50)) (.int .i64 5)) (.int .i64)) (.econs (.sel (.econs (.sel (.econs (.var 20) (.econs (.var 104) (.econs (.var 188) (.econs (.var 272) (.econs (.var 356) .enil))))) (.ar .rem .i64 (.ar .sub .i64 (.var 0) (.int .i64 50)) (.int .i64 5)) (.list 57)) (.econs (.sel (.econs (.var 34) (.econs (.var 118) (.econs (.var 202) (.econs (.var 286) (.econs (.var 370) .enil))))) (.ar .rem .i64 (.ar .sub .i64 (.var 0) (.int .i64 50)) (.int .i64 5)) (.list 57)) (.econs (.sel (.econs (.var 48) (.econs (.var 132) (.econs (.var 216) (.econs (.var 300) (.econs (.var 384) .enil))))) (.ar .rem .i64 (.ar .sub .i64 (.var 0) (.int .i64 50)) (.int .i64 5)) (.list 57)) (.econs (.sel (.econs (.var 62) (.econs (.var 146) (.econs (.var 230) (.econs (.var 314) (.econs (.var 398) .enil))))) (.ar .rem .i64 (.ar .sub .i64 (.var 0) (.int .i64 50)) (.int .i64 5)) (.list 57)) (.econs (.sel (.econs (.var 76) (.econs (.var 160) (.econs (.var 244) (.econs (.var 328) (.econs (.var 412) .enil))))) (.ar .rem .i64 (.ar .sub .i64 (.var 0) (.int .i64 50)) (.int .i64 5)) (.list 57)) (.econs (.sel (.econs (.var 90) (.econs (.var 174) (.econs (.var 258) (.econs (.var 342) (.econs (.var 426) .enil))))) (.ar .rem .i64 (.ar .sub .i64 (.var 0) (.int .i64 50)) (.int .i64 5)) (.list 57)) .enil)))))) (.ar .quo .i64 (.ar .sub .i64 (.var 0) (.int .i64 50)) (.int .i64 5)) (.list 57)) .enil))))))))))))))) (.ret [(.int .i64 2), (.ar .rem .i64 (.ar .sub .i64 (.var 0) (.int .i64 50)) (.int .i64 5)), (.cmp .eq (.ar .rem .i64 (.ar .quo .i64 (.ar .sub .i64 (.var 0) (.int .i64 50)) (.int .i64 5)) (.int .i64 2)) (.int .i64 0)), (.var 1), (.var 2), (.var 3), (.var 4), (.var 5), (.var 6), (.int .i64 0), (.int .i64 0), (.int .i64 0), (.var 427), .nili])))))))))))) (.ite (.cmp .lt (.var 0) (.int .i64 100)) (.call k_tcost [(.ar .rem .i64 (.ar .sub .i64 (.var 0) (.int .i64 80)) (.int .i64 5)), (.int .i64 1), (.ar .add .i64 (.ar .quo .i64 (.ar .sub .i64 (.var 0) (.int .i64 80)) (.int .i64 5)) (.int .i64 1))] [(.int .i64), (.int .i64), (.int .i64), (.int .i64), (.int .i64), (.int .i64)] (.call k_twr [] [(.int .i64), (.int .i64), (.int .i64), (.int .i64), (.int .i64), (.int .i64), (.int .i64), .bool, (.int .i64), (.int .i64), (.int .i64), (.int .i64), (.int .i64), (.list 57), (.int .i64), (.int .i64), (.int .i64), (.int .i64), (.int .i64), (.int .i64), (.int .i64), .bool, (.int .i64), (.int .i64), (.int .i64), (.int .i64), (.int .i64), (.list 57), (.int .i64), (.int .i64), (.int .i64), (.int .i64), (.int .i64), (.int .i64), (.int .i64), .bool, (.int .i64), (.int .i64), (.int .i64), (.int .i64), (.int .i64), (.list 57), (.int .i64), (.int .i64), (.int .i64), (.int .i64), (.int .i64), (.int .i64), (.int .i64), .bool, (.int .i64), (.int .i64), (.int .i64), (.int .i64), (.int .i64), (.list 57)] (.call k_tur [] [(.int .i64), (.int .i64), (.int .i64), (.int .i64), (.int .i64), (.int .i64), (.int .i64), .bool, (.int .i64), (.int .i64), (.int .i64), (.int .i64), (.int .i64), (.list 57), (.int .i64), (.int .i64), (.int .i64), (.int .i64), (.int .i64), (.int .i64), (.int .i64), .bool, (.int .i64), (.int .i64), (.int .i64), (.int .i64), (.int .i64), (.list 57), (.int .i64), (.int .i64), (.int .i64), (.int .i64), (.int .i64), (.int .i64), (.int .i64), .bool, (.int .i64), (.int .i64), (.int .i64), (.int .i64), (.int .i64), (.list 57), (.int .i64), (.int .i64), (.int .i64), (.int .i64), (.int .i64), (.int .i64), (.int .i64), .bool, (.int .i64), (.int .i64), (.int .i64), (.int .i64), (.int .i64), (.list 57)] (.call k_tbr [] [(.int .i64), (.int .i64), (.int .i64), (.int .i64), (.int .i64), (.int .i64), (.int .i64), .bool, (.int .i64), (.int .i64), (.int .i64), (.int .i64), (.int .i64), (.list 57), (.int .i64), (.int .i64), (.int .i64), (.int .i64), (.int .i64), (.int .i64), (.int .i64), .bool, (.int .i64), (.int .i64), (.int .i64), (.int .i64), (.int .i64), (.list 57), (.int .i64), (.int .i64), (.int .i64), (.int .i64), (.int .i64), (.int .i64), (.int .i64), .bool, (.int .i64), (.int .i64), (.int .i64), (.int .i64), (.int .i64), (.list 57), (.int .i64), (.int .i64), (.int .i64), (.int .i64), (.int .i64), (.int .i64), (.int .i64), .bool, (.int .i64), (.int .i64), (.int .i64), (.int .i64), (.int .i64), (.list 57)] (.call k_trr [] [(.int .i64), (.int .i64), (.int .i64), (.int .i64), (.int .i64), (.int .i64), (.int .i64), .bool, (.int .i64), (.int .i64), (.int .i64), (.int .i64), (.int .i64), (.list 57), (.int .i64), (.int .i64), (.int .i64), (.int .i64), (.int .i64), (.int .i64), (.int .i64), .bool, (.int .i64), (.int .i64), (.int .i64), (.int .i64), (.int .i64), (.list 57), (.int .i64), (.int .i64), (.int .i64), (.int .i64), (.int .i64), (.int .i64), (.int .i64), .bool, (.int .i64), (.int .i64), (.int .i64), (.int .i64), (.int .i64), (.list 57), (.int .i64), (.int .i64), (.int .i64), (.int .i64), (.int .i64), (.int .i64), (.int .i64), .bool, (.int .i64), (.int .i64), (.int .i64), (.int .i64), (.int .i64), (.list 57)] (.call k_tgr [] [(.int .i64), (.int .i64), (.int .i64), (.int .i64), (.int .i64), (.int .i64), (.int .i64), .bool, (.int .i64), (.int .i64), (.int .i64), (.int .i64), (.int .i64), (.list 57), (.int .i64), (.int .i64), (.int .i64), (.int .i64), (.int .i64), (.int .i64), (.int .i64), .bool, (.int .i64), (.int .i64), (.int .i64), (.int .i64), (.int .i64), (.list 57), (.int .i64), (.int .i64), (.int .i64), (.int .i64), (.int .i64), (.int .i64), (.int .i64), .bool, (.int .i64), (.int .i64), (.int .i64), (.int .i64), (.int .i64), (.list 57), (.int .i64), (.int .i64), (.int .i64), (.int .i64), (.int .i64), (.int .i64), (.int .i64), .bool, (.int .i64), (.int .i64), (.int .i64), (.int .i64), (.int .i64), (.list 57)] (.ob (.cmp .ge (.ar .rem .i64 (.ar .sub .i64 (.var 0) (.int .i64 80)) (.int .i64 5)) (.int .i64 0)) (.ob (.cmp .lt (.ar .rem .i64 (.ar .sub .i64 (.var 0) (.int .i64 80)) (.int .i64 5)) (.int .i64 5)) (.ob (.cmp .ge (.ar .quo .i64 (.ar .sub .i64 (.var 0) (.int .i64 80)) (.int .i64 5)) (.int .i64 0)) (.ob (.cmp .lt (.ar .quo .i64 (.ar .sub .i64 (.var 0) (.int .i64 80)) (.int .i64 5)) (.int .i64 4)) (.share 59 (.push .emp (.econs (.sel (.econs (.sel (.econs (.var 7) (.econs (.var 63) (.econs (.var 119) (.econs (.var 175) (.econs (.var 231) .enil))))) (.ar .rem .i64 (.ar .sub .i64 (.var 0) (.int .i64 80)) (.int .i64 5)) (.int .i64)) (.econs (.sel (.econs (.var 21) (.econs (.var 77) (.econs (.var 133) (.econs (.var 189) (.econs (.var 245) .enil))))) (.ar .rem .i64 (.ar .sub .i64 (.var 0) (.int .i64 80)) (.int .i64 5)) (.int .i64)) (.econs (.sel (.econs (.var 35) (.econs (.var 91) (.econs (.var 147) (.econs (.var 203) (.econs (.var 259) .enil))))) (.ar .rem .i64 (.ar .sub .i64 (.var 0) (.int .i64 80)) (.int .i64 5)) (.int .i64)) (.econs (.sel (.econs (.var 49) (.econs (.var 105) (.econs (.var 161) (.econs (.var 217) (.econs (.var 273) .enil))))) (.ar .rem .i64 (.ar .sub .i64 (.var 0) (.int .i64 80)) (.int .i64 5)) (.int .i64)) .enil)))) (.ar .quo .i64 (.ar .sub .i64 (.var 0) (.int .i64 80)) (.int .i64 5)) (.int .i64)) (.econs (.sel (.econs (.sel (.econs (.var 8) (.econs (.var 64) (.econs (.var 120) (.econs (.var 176) (.econs (.var 232) .enil))))) (.ar .rem .i64 (.ar .sub .i64 (.var 0) (.int .i64 80)) (.int .i64 5)) (.int .i64)) (.econs (.sel (.econs (.var 22) (.econs (.var 78) (.econs (.var 134) (.econs (.var 190) (.econs (.var 246) .enil))))) (.ar .rem .i64 (.ar .sub .i64 (.var 0) (.int .i64 80)) (.int .i64 5)) (.int .i64)) (.econs (.sel (.econs (.var 36) (.econs (.var 92) (.econs (.var 148) (.econs (.var 204) (.econs (.var 260) .enil))))) (.ar .rem .i64 (.ar .sub .i64 (.var 0) (.int .i64 80)) (.int .i64 5)) (.int .i64)) (.econs (.sel (.econs (.var 50) (.econs (.var 106) (.econs (.var 162) (.econs (.var 218) (.econs (.var 274) .enil))))) (.ar .rem .i64 (.ar .sub .i64 (.var 0) (.int .i64 80)) (.int .i64 5)) (.int .i64)) .enil)))) (.ar .quo .i64 (.ar .sub .i64 (.var 0) (.int .i64 80)) (.int .i64 5)) (.int .i64)) (.econs (.sel (.econs (.sel (.econs (.var 9) (.econs (.var 65) (.econs (.var 121) (.econs (.var 177) (.econs (.var 233) .enil))))) (.ar .rem .i64 (.ar .sub .i64 (.var 0) (.int .i64 80)) (.int .i64 5)) (.int .i64)) (.econs (.sel (.econs (.var 23) (.econs (.var 79) (.econs (.var 135) (.econs (.var 191) (.econs (.var 247) .enil))))) (.ar .rem .i64 (.ar .sub .i64 (.var 0) (.int .i64 80)) (.int .i64 5)) (.int .i64)) (.econs (.sel (.econs (.var 37) (.econs (.var 93) (.econs (.var 149) (.econs (.var 205) (.econs (.var 261) .enil))))) (.ar .rem .i64 (.ar .sub .i64 (.var 0) (.int .i64 80)) (.int .i64 5)) (.int .i64)) (.econs (.sel (.econs (.var 51) (.econs (.var 107) (.econs (.var 163) (.econs (.var 219) (.econs (.var 275) .enil))))) (.ar .rem .i64 (.ar .sub .i64 (.var 0) (.int .i64 80)) (.int .i64 5)) (.int .i64)) .enil)))) (.ar .quo .i64 (.ar .sub .i64 (.var 0) (.int .i64 80)) (.int .i64 5)) (.int .i64)) (.econs (.sel (.econs (.sel (.econs (.var 10) (.econs (.var 66) (.econs (.var 122) (.econs (.var 178) (.econs (.var 234) .enil))))) (.ar .rem .i64 (.ar .sub .i64 (.var 0) (.int .i64 80)) (.int .i64 5)) (.int .i64)) (.econs (.sel (.econs (.var 24) (.econs (.var 80) (.econs (.var 136) (.econs (.var 192) (.econs (.var 248) .enil))))) (.ar .rem .i64 (.ar .sub .i64 (.var 0) (.int .i64 80)) (.int .i64 5)) (.int .i64)) (.econs (.sel (.econs (.var 38) (.econs (.var 94) (.econs (.var 150) (.econs (.var 206) (.econs (.var 262) .enil))))) (.ar .rem .i64 (.ar .sub .i64 (.var 0) (.int .i64 80)) (.int .i64 5)) (.int .i64)) (.econs (.sel (.econs (.var 52) (.econs (.var 108) (.econs (.var 164) (.econs (.var 220) (.econs (.var 276) .enil))))) (.ar .rem .i64 (.ar .sub .i64 (.var 0) (.int .i64 80)) (.int .i64 5)) (.int .i64)) .enil)))) (.ar .quo .i64 (.ar .sub .i64 (.var 0) (.int .i64 80)) (.int .i64 5)) (.int .i64)) (.econs (.sel (.econs (.sel (.econs (.var 11) (.econs (.var 67) (.econs (.var 123) (.econs (.var 179) (.econs (.var 235) .enil))))) (.ar .rem .i64 (.ar .sub .i64 (.var 0) (.int .i64 80)) (.int .i64 5)) (.int .i64)) (.econs (.sel (.econs (.var 25) (.econs (.var 81) (.econs (.var 137) (.econs (.var 193) (.econs (.var 249) .enil))))) (.ar .rem .i64 (.ar .sub .i64 (.var 0) (.int .i64 80)) (.int .i64 5)) (.int .i64)) (.econs (.sel (.econs (.var 39) (.econs (.var 95) (.econs (.var 151) (.econs (.var 207) (.econs (.var 263) .enil))))) (.ar .rem .i64 (.ar .sub .i64 (.var 0) (.int .i64 80)) (.int .i64 5)) (.int .i64)) (.econs (.sel (.econs (.var 53) (.econs (.var 109) (.econs (.var 165) (.econs (.var 221) (.econs (.var 277) .enil))))) (.ar .rem .i64 (.ar .sub .i64 (.var 0) (.int .i64 80)) (.int .i64 5)) (.int .i64)) .enil)))) (.ar .quo .i64 (.ar .sub .i64 (.var 0) (.int .i64 80)) (.int .i64 5)) (.int .i64)) (.econs (.sel (.econs (.sel (.econs (.var 12) (.econs (.var 68) (.econs (.var 124) (.econs (.var 180) (.econs (.var 236) .enil))))) (.ar .rem .i64 (.ar .sub .i64 (.var 0) (.int .i64 80)) (.int .i64 5)) (.int .i64)) (.econs (.sel (.econs (.var 26) (.econs (.var 82) (.econs (.var 138) (.econs (.var 194) (.econs (.var 250) .enil))))) (.ar .rem .i64 (.ar .sub .i64 (.var 0) (.int .i64 80)) (.int .i64 5)) (.int .i64)) (.econs (.sel (.econs (.var 40) (.econs (.var 96) (.econs (.var 152) (.econs (.var 208) (.econs (.var 264) .enil))))) (.ar .rem .i64 (.ar .sub .i64 (.var 0) (.int .i64 80)) (.int .i64 5)) (.int .i64)) (.econs (.sel (.econs (.var 54) (.econs (.var 110) (.econs (.var 166) (.econs (.var 222) (.econs (.var 278) .enil))))) (.ar .rem .i64 (.ar .sub .i64 (.var 0) (.int .i64 80)) (.int .i64 5)) (.int .i64)) .enil)))) (.ar .quo .i64 (.ar .sub .i64 (.var 0) (.int .i64 80)) (.int .i64 5)) (.int .i64)) (.econs (.sel (.econs (.sel (.econs (.var 13) (.econs (.var 69) (.econs (.var 125) (.econs (.var 181) (.econs (.var 237) .enil))))) (.ar .rem .i64 (.ar .sub .i64 (.var 0) (.int .i64 80)) (.int .i64 5)) (.int .i64)) (.econs (.sel (.econs (.var 27) (.econs (.var 83) (.econs (.var 139) (.econs (.var 195) (.econs (.var 251) .enil))))) (.ar .rem .i64 (.ar .sub .i64 (.var 0) (.int .i64 80)) (.int .i64 5)) (.int .i64)) (.econs (.sel (.econs (.var 41) (.econs (.var 97) (.econs (.var 153) (.econs (.var 209) (.econs (.var 265) .enil))))) (.ar .rem .i64 (.ar .sub .i64 (.var 0) (.int .i64 80)) (.int .i64 5)) (.int .i64)) (.econs (.sel (.econs (.var 55) (.econs (.var 111) (.econs (.var 167) (.econs (.var 223) (.econs (.var 279) .enil))))) (.ar .rem .i64 (.ar .sub .i64 (.var 0) (.int .i64 80)) (.int .i64 5)) (.int .i64)) .enil)))) (.ar .quo .i64 (.ar .sub .i64 (.var 0) (.int .i64 80)) (.int .i64 5)) (.int .i64)) (.econs (.sel (.econs (.sel (.econs (.var 14) (.econs (.var 70) (.econs (.var 126) (.econs (.var 182) (.econs (.var 238) .enil))))) (.ar .rem .i64 (.ar .sub .i64 (.var 0) (.int .i64 80)) (.int .i64 5)) .bool) (.econs (.sel (.econs (.var 28) (.econs (.var 84) (.econs (.var 140) (.econs (.var 196) (.econs (.var 252) .enil))))) (.ar .rem .i64 (.ar .sub .i64 (.var 0) (.int .i64 80)) (.int .i64 5)) .bool) (.econs (.sel (.econs (.var 42) (.econs (.var 98) (.econs (.var 154) (.econs (.var 210) (.econs (.var 266) .enil))))) (.ar .rem .i64 (.ar .sub .i64 (.var 0) (.int .i64 80)) (.int .i64 5)) .bool) (.econs (.sel (.econs (.var 56) (.econs (.var 112) (.econs (.var 168) (.econs (.var 224) (.econs (.var 280) .enil))))) (.ar .rem .i64 (.ar .sub .i64 (.var 0) (.int .i64 80)) (.int .i64 5)) .bool) .enil)))) (.ar .quo .i64 (.ar .sub .i64 (.var 0) (.int .i64 80)) (.int .i64 5)) .bool) (.econs (.sel (.econs (.sel (.econs (.var 15) (.econs (.var 71) (.econs (.var 127) (.econs (.var 183) (.econs (.var 239) .enil))))) (.ar .rem .i64 (.ar .sub .i64 (.var 0) (.int .i64 80)) (.int .i64 5)) (.int .i64)) (.econs (.sel (.econs (.var 29) (.econs (.var 85) (.econs (.var 141) (.econs (.var 197) (.econs (.var 253) .enil))))) (.ar .rem .i64 (.ar .sub .i64 (.var 0) (.int .i64 80)) (.int .i64 5)) (.int .i64)) (.econs (.sel (.econs (.var 43) (.econs (.var 99) (.econs (.var 155) (.econs (.var 211) (.econs (.var 267) .enil))))) (.ar .rem .i64 (.ar .sub .i64 (.var 0) (.int .i64 80)) (.int .i64 5)) (.int .i64)) (.econs (.sel (.econs (.var 57) (.econs (.var 113) (.econs (.var 169) (.econs (.var 225) (.econs (.var 281) .enil))))) (.ar .rem .i64 (.ar .sub .i64 (.var 0) (.int .i64 80)) (.int .i64 5)) (.int .i64)) .enil)))) (.ar .quo .i64 (.ar .sub .i64 (.var 0) (.int .i64 80)) (.int .i64 5)) (.int .i64)) (.econs (.sel (.econs (.sel (.econs (.var 16) (.econs (.var 72) (.econs (.var 128) (.econs (.var 184) (.econs (.var 240) .enil))))) (.ar .rem .i64 (.ar .sub .i64 (.var 0) (.int .i64 80)) (.int .i64 5)) (.int .i64)) (.econs (.sel (.econs (.var 30) (.econs (.var 86) (.econs (.var 142) (.econs (.var 198) (.econs (.var 254) .enil))))) (.ar .rem .i64 (.ar .sub .i64 (.var 0) (.int .i64 80)) (.int .i64 5)) (.int .i64)) (.econs (.sel (.econs (.var 44) (.econs (.var 100) (.econs (.var 156) (.econs (.var 212) (.econs (.var 268) .enil))))) (.ar .rem .i64 (.ar .sub .i64 (.var 0) (.int .i64 80)) (.int .i64 5)) (.int .i64)) (.econs (.sel (.econs (.var 58) (.econs (.var 114) (.econs (.var 170) (.econs (.var 226) (.econs (.var 282) .enil))))) (.ar .rem .i64 (.ar .sub .i64 (.var 0) (.int .i64 80)) (.int .i64 5)) (.int .i64)) .enil)))) (.ar .quo .i64 (.ar .sub .i64 (.var 0) (.int .i64 80)) (.int .i64 5)) (.int .i64)) (.econs (.sel (.econs (.sel (.econs (.var 17) (.econs (.var 73) (.econs (.var 129) (.econs (.var 185) (.econs (.var 241) .enil))))) (.ar .rem .i64 (.ar .sub .i64 (.var 0) (.int .i64 80)) (.int .i64 5)) (.int .i64)) (.econs (.sel (.econs (.var 31) (.econs (.var 87) (.econs (.var 143) (.econs (.var 199) (.econs (.var 255) .enil))))) (.ar .rem .i64 (.ar .sub .i64 (.var 0) (.int .i64 80)) (.int .i64 5)) (.int .i64)) (.econs (.sel (.econs (.var 45) (.econs (.var 101) (.econs (.var 157) (.econs (.var 213) (.econs (.var 269) .enil))))) (.ar .rem .i64 (.ar .sub .i64 (.var 0) (.int .i64 80)) (.int .i64 5)) (.int .i64)) (.econs (.sel (.econs (.var 59) (.econs (.var 115) (.econs (.var 171) (.econs (.var 227) (.econs (.var 283) .enil))))) (.ar .rem .i64 (.ar .sub .i64 (.var 0) (.int .i64 80)) (.int .i64 5)) (.int .i64)) .enil)))) (.ar .quo .i64 (.ar .sub .i64 (.var 0) (.int .i64 80)) (.int .i64 5)) (.int .i64)) (.econs (.sel (.econs (.sel (.econs (.var 18) (.econs (.var 74) (.econs (.var 130) (.econs (.var 186) (.econs (.var 242) .enil))))) (.ar .rem .i64 (.ar .sub .i64 (.var 0) (.int .i64 80)) (.int .i64 5)) (.int .i64)) (.econs (.sel (.econs (.var 32) (.econs (.var 88) (.econs (.var 144) (.econs (.var 200) (.econs (.var 256) .enil))))) (.ar .rem .i64 (.ar .sub .i64 (.var 0) (.int .i64 80)) (.int .i64 5)) (.int .i64)) (.econs (.sel (.econs (.var 46) (.econs (.var 102) (.econs (.var 158) (.econs (.var 214) (.econs (.var 270) .enil))))) (.ar .rem .i64 (.ar .sub .i64 (.var 0) (.int .i64 80)) (.int .i64 5)) (.int .i64)) (.econs (.sel (.econs (.var 60) (.econs (.var 116) (.econs (.var 172) (.econs (.var 228) (.econs (.var 284) .enil))))) (.ar .rem .i64 (.ar .sub .i64 (.var 0) (.int .i64 80)) (.int .i64 5)) (.int .i64)) .enil)))) (.ar .quo .i64 (.ar .sub .i64 (.var 0) (.int .i64 80)) (.int .i64 5)) (.int .i64)) (.econs (.sel (.econs (.sel (.econs (.var 19) (.econs (.var 75) (.econs (.var 131) (.econs (.var 187) (.econs (.var 243) .enil))))) (.ar .rem .i64 (.ar .sub .i64 (.var 0) (.int .i64 80)) (.int .i64 5)) (.int .i64)) (.econs (.sel (.econs (.var 33) (.econs (.var 89) (.econs (.var 145) (.econs (.var 201) (.econs (.var 257) .enil))))) (.ar .rem .i64 (.ar .sub .i64 (.var 0) (.int .i64 80)) (.int .i64 5)) (.int .i64)) (.econs (.sel (.econs (.var 47) (.econs (.var 103) (.econs (.var 159) (.econs (.var 215) (.econs (.var 271) .enil))))) (.ar .rem .i64 (.ar .sub .i64 (.var 0) (.int .i64 80)) (.int .i64 5)) (.int .i64)) (.econs (.sel (.econs (.var 61) (.econs (.var 117) (.econs (.var 173) (.econs (.var 229) (.econs (.var 285) .enil))))) (.ar .rem .i64 (.ar .sub .i64 (.var 0) (.int .i64 80)) (.int .i64 5)) (.int .i64)) .enil)))) (.ar .quo .i64 (.ar .sub .i64 (.var 0) (.int .i64 80)) (.int .i64 5)) (.int .i64)) (.econs (.sel (.econs (.sel (.econs (.var 20) (.econs (.var 76) (.econs (.var 132) (.econs (.var 188) (.econs (.var 244) .enil))))) (.ar .rem .i64 (.ar .sub .i64 (.var 0) (.int .i64 80)) (.int .i64 5)) (.list 57)) (.econs (.sel (.econs (.var 34) (.econs (.var 90) (.econs (.var 146) (.econs (.var 202) (.econs (.var 258) .enil))))) (.ar .rem .i64 (.ar .sub .i64 (.var 0) (.int .i64 80)) (.int .i64 5)) (.list 57)) (.econs (.sel (.econs (.var 48) (.econs (.var 104) (.econs (.var 160) (.econs (.var 216) (.econs (.var 272) .enil))))) (.ar .rem .i64 (.ar .sub .i64 (.var 0) (.int .i64 80)) (.int .i64 5)) (.list 57)) (.econs (.sel (.econs (.var 62) (.econs (.var 118) (.econs (.var 174) (.econs (.var 230) (.econs (.var 286) .enil))))) (.ar .rem .i64 (.ar .sub .i64 (.var 0) (.int .i64 80)) (.int .i64 5)) (.list 57)) .enil)))) (.ar .quo .i64 (.ar .sub .i64 (.var 0) (.int .i64 80)) (.int .i64 5)) (.list 57)) .enil))))))))))))))) (.ret [(.int .i64 3), (.ar .rem .i64 (.ar .sub .i64 (.var 0) (.int .i64 80)) (.int .i64 5)), (.bool false), (.var 1), (.var 2), (.var 3), (.var 4), (.var 5), (.var 6), (.int .i64 0), (.int .i64 0), (.int .i64 0), (.var 287), .nili])))))))))))) (.ite (.cmp .lt (.var 0) (.int .i64 112)) (.call k_tspecial [(.ar .sub .i64 (.var 0) (.int .i64 100))] [(.int .i64), (.int .i64), .bool, (.int .i64), (.int .i64), (.int .i64), (.int .i64), (.int .i64), (.int .i64), (.int .i64), (.int .i64), (.int .i64), (.list 59)] (.ret [(.var 1), (.var 2), (.var 3), (.var 4), (.var 5), (.var 6), (.var 7), (.var 8), (.var 9), (.var 10), (.var 11), (.var 12), (.var 13), .nili])) (.ret [(.int .i64 1), (.int .i64 5), (.bool false), (.int .i64 0), (.int .i64 0), (.int .i64 0), (.int .i64 0), (.int .i64 0), (.int .i64 0), (.ar .add .i64 (.ar .quo .i64 (.ar .sub .i64 (.var 0) (.int .i64 112)) (.int .i64 2)) (.int .i64 1)), (.ar .add .i64 (.ar .quo .i64 (.ar .sub .i64 (.var 0) (.int .i64 112)) (.int .i64 2)) (.int .i64 1)), (.ar .mul .i64 (.ar .rem .i64 (.ar .sub .i64 (.var 0) (.int .i64 112)) (.int .i64 2)) (.int .i64 1)), (.nil 59), .nili])))))))
theorem wk_tcard : walk E0.cx (sgsN [(73, sg_tcost), (71, sg_tsource), (72, sg_tbeast), (105, sg_tws), (106, sg_tus), (107, sg_tbs), (108, sg_trs), (109, sg_tgs), (110, sg_twr), (111, sg_tur), (112, sg_tbr), (113, sg_trr), (114, sg_tgr), (76, sg_tspecial)]) 0 31 sg_tcard = tr_tcard := by kernel_rfl
theorem bo_tcard : ∃ x, bodyOf E0.P 31 = some x := bo_of (by kernel_rfl)
theorem sp_tcard_tcost : specC [con_tcost, con_tsource, con_tbeast, con_tws, con_tus, con_tbs, con_trs, con_tgs, con_twr, con_tur, con_tbr, con_trr, con_tgr, con_tspecial] k_tcost = tcost_s := rfl
theorem sp_tcard_tsource : specC [con_tcost, con_tsource, con_tbeast, con_tws, con_tus, con_tbs, con_trs, con_tgs, con_twr, con_tur, con_tbr, con_trr, con_tgr, con_tspecial] k_tsource = tsource_s := rfl
theorem sp_tcard_tbeast : specC [con_tcost, con_tsource, con_tbeast, con_tws, con_tus, con_tbs, con_trs, con_tgs, con_twr, con_tur, con_tbr, con_trr, con_tgr, con_tspecial] k_tbeast = tbeast_s := rfl
theorem sp_tcard_tws : specC [con_tcost, con_tsource, con_tbeast, con_tws, con_tus, con_tbs, con_trs, con_tgs, con_twr, con_tur, con_tbr, con_trr, con_tgr, con_tspecial] k_tws = tws_s := rfl
theorem sp_tcard_tus : specC [con_tcost, con_tsource, con_tbeast, con_tws, con_tus, con_tbs, con_trs, con_tgs, con_twr, con_tur, con_tbr, con_trr, con_tgr, con_tspecial] k_tus = tus_s := rfl
theorem sp_tcard_tbs : specC [con_tcost, con_tsource, con_tbeast, con_tws, con_tus, con_tbs, con_trs, con_tgs, con_twr, con_tur, con_tbr, con_trr, con_tgr, con_tspecial] k_tbs = tbs_s := rfl
theorem sp_tcard_trs : specC [con_tcost, con_tsource, con_tbeast, con_tws, con_tus, con_tbs, con_trs, con_tgs, con_twr, con_tur, con_tbr, con_trr, con_tgr, con_tspecial] k_trs = trs_s := rfl
theorem sp_tcard_tgs : specC [con_tcost, con_tsource, con_tbeast, con_tws, con_tus, con_tbs, con_trs, con_tgs, con_twr, con_tur, con_tbr, con_trr, con_tgr, con_tspecial] k_tgs = tgs_s := rfl
theorem sp_tcard_twr : specC [con_tcost, con_tsource, con_tbeast, con_tws, con_tus, con_tbs, con_trs, con_tgs, con_twr, con_tur, con_tbr, con_trr, con_tgr, con_tspecial] k_twr = twr_s := rfl
theorem sp_tcard_tur : specC [con_tcost, con_tsource, con_tbeast, con_tws, con_tus, con_tbs, con_trs, con_tgs, con_twr, con_tur, con_tbr, con_trr, con_tgr, con_tspecial] k_tur = tur_s := rfl
theorem sp_tcard_tbr : specC [con_tcost, con_tsource, con_tbeast, con_tws, con_tus, con_tbs, con_trs, con_tgs, con_twr, con_tur, con_tbr, con_trr, con_tgr, con_tspecial] k_tbr = tbr_s := rfl
theorem sp_tcard_trr : specC [con_tcost, con_tsource, con_tbeast, con_tws, con_tus, con_tbs, con_trs, con_tgs, con_twr, con_tur, con_tbr, con_trr, con_tgr, con_tspecial] k_trr = trr_s := rfl
theorem sp_tcard_tgr : specC [con_tcost, con_tsource, con_tbeast, con_tws, con_tus, con_tbs, con_trs, con_tgs, con_twr, con_tur, con_tbr, con_trr, con_tgr, con_tspecial] k_tgr = tgr_s := rfl
theorem sp_tcard_tspecial : specC [con_tcost, con_tsource, con_tbeast, con_tws, con_tus, con_tbs, con_trs, con_tgs, con_twr, con_tur, con_tbr, con_trr, con_tgr, con_tspecial] k_tspecial = tspecial_s := rfl
def lit0 (l : List PD) : List PD → Option (List PD)
  | [] => some l
  | _ => none
theorem fits_lit {Φ : Nat → Spec} {k : Nat} {g : List PD → Option (List PD)} {x : List PD} {l : List (Nat × (List PD → Option (List PD)))} (h : Φ k = psp g) (hg : g [] = some x) (t : (pfun l).fits Φ) : (pfun ((k, lit0 x) :: l)).fits Φ := fun f args rs h' ds W hd hW => by
  simp only [pfun] at h'
  split at h'
  · rename_i e
    subst e
    rw [h]
    cases args with
    | nil => exact ⟨x, by rw [hd]; exact hg, by cases h'; exact hW⟩
    | cons a b => cases h'
  · exact t f args rs h' ds W hd hW
noncomputable def tcard_g : List PD → Option (List PD) := fun ps => evL E0.Δ (pfun [(k_tcost, tcost_g), (k_tsource, tsource_g), (k_tbeast, tbeast_g), (k_tws, lit0 whiteS), (k_tus, lit0 blueS), (k_tbs, lit0 blackS), (k_trs, lit0 redS), (k_tgs, lit0 greenS), (k_twr, lit0 whiteR), (k_tur, lit0 blueR), (k_tbr, lit0 blackR), (k_trr, lit0 redR), (k_tgr, lit0 greenR), (k_tspecial, tspecial_g)]) 0 [] tr_tcard ps
def tcard_s : Spec := psp tcard_g
theorem tcard_h : Holds E0 k_tcard sg_tcard tcard_s := con_ev wf0 mix0 g0 [con_tcost, con_tsource, con_tbeast, con_tws, con_tus, con_tbs, con_trs, con_tgs, con_twr, con_tur, con_tbr, con_trr, con_tgr, con_tspecial] rfl wk_tcard rfl
  (fits_cons (k := k_tcost) (g := tcost_g) sp_tcard_tcost (fits_cons (k := k_tsource) (g := tsource_g) sp_tcard_tsource (fits_cons (k := k_tbeast) (g := tbeast_g) sp_tcard_tbeast
    (fits_lit (k := k_tws) (g := tws_g) sp_tcard_tws tws_ok (fits_lit (k := k_tus) (g := tus_g) sp_tcard_tus tus_ok (fits_lit (k := k_tbs) (g := tbs_g) sp_tcard_tbs tbs_ok (fits_lit (k := k_trs) (g := trs_g) sp_tcard_trs trs_ok (fits_lit (k := k_tgs) (g := tgs_g) sp_tcard_tgs tgs_ok
    (fits_lit (k := k_twr) (g := twr_g) sp_tcard_twr twr_ok (fits_lit (k := k_tur) (g := tur_g) sp_tcard_tur tur_ok (fits_lit (k := k_tbr) (g := tbr_g) sp_tcard_tbr tbr_ok (fits_lit (k := k_trr) (g := trr_g) sp_tcard_trr trr_ok (fits_lit (k := k_tgr) (g := tgr_g) sp_tcard_tgr tgr_ok
    (fits_cons (k := k_tspecial) (g := tspecial_g) sp_tcard_tspecial fits_nil)))))))))))))) 0
noncomputable def con_tcard : Con E0 := ⟨k_tcard, sg_tcard, tcard_s, rfl, bo_tcard, tcard_h⟩
noncomputable def tchk (n : Nat) : Bool := match tcard_g [.int n] with
  | some l => sameR l (cardP n ++ [.nil])
  | none => false
end Go.Proofs.YtelfhmeobfimiaaDoor
end

section
namespace Go.Proofs.YtelfhmeobfimiaaDoor
open Go.RowKit
set_option linter.unusedVariables false
set_option linter.unusedSimpArgs false

theorem tchk_0 : (List.range' 0 50).all tchk = true := by kernel_rfl
theorem tchk_1 : (List.range' 50 30).all tchk = true := by kernel_rfl
theorem tchk_2 : (List.range' 80 40).all tchk = true := by kernel_rfl
theorem tcard_in {n : Int} (h0 : 0 ≤ n) (h1 : n < 120) : tcard_g [.int n] = some (cardP n ++ [.nil]) := by
  obtain ⟨k, rfl⟩ := Int.eq_ofNat_of_zero_le h0
  have h : tchk k = true := by
    by_cases h5 : k < 50
    · exact List.all_eq_true.1 tchk_0 k (by simp [List.mem_range']; omega)
    · by_cases h8 : k < 80
      · exact List.all_eq_true.1 tchk_1 k (by simp only [List.mem_range']; exact ⟨k - 50, by omega, by omega⟩)
      · exact List.all_eq_true.1 tchk_2 k (by simp only [List.mem_range']; exact ⟨k - 80, by omega, by omega⟩)
  unfold tchk at h
  split at h
  · rename_i l hl
    rw [hl, sameR_ok h]
  · cases h
end Go.Proofs.YtelfhmeobfimiaaDoor
end

section
namespace Go.Proofs.YtelfhmeobfimiaaDoor
open Go.RowKit
set_option linter.unusedVariables false
set_option linter.unusedSimpArgs false

def k_tkind : Nat := 117
def sg_tkind : Sig := ⟨[(true, [.list 36] ++ List.replicate 11 (.list 3) ++ List.replicate 25 (.int .i64)), (false, [.int .i64])], [(true, [.int .i64, .int .i64] ++ [.bool] ++ List.replicate 9 (.int .i64) ++ [.list 59])], false, false, true, false, false⟩
def tr_tkind : Tree := (.ob (.cmp .ge (.var 37) (.int .i64 0))
(.ob (.cmp .lt (.var 37) (.len (.var 0)))
(.call k_tcard [(.elem (.var 0) (.var 37) 0 (.int .i64))] [(.int .i64), (.int .i64), .bool, (.int .i64), (.int .i64), (.int .i64), (.int .i64), (.int .i64), (.int .i64), (.int .i64), (.int .i64), (.int .i64), (.list 59), .err]
(.ite (.not (.isnil (.var 51)))
 (.ret [(.int .i64 0), (.int .i64 0), (.bool false), (.int .i64 0), (.int .i64 0), (.int .i64 0), (.int .i64 0), (.int .i64 0), (.int .i64 0), (.int .i64 0), (.int .i64 0), (.int .i64 0), (.nil 59)])
 (.ret [(.var 38), (.var 39), (.var 40), (.var 41), (.var 42), (.var 43), (.var 44), (.var 45), (.var 46), (.var 47), (.var 48), (.var 49), (.var 50)])))))
theorem wk_tkind : walk E0.cx (sgsN [(31, sg_tcard)]) 0 117 sg_tkind = tr_tkind := by kernel_rfl
theorem bo_tkind : ∃ x, bodyOf E0.P 117 = some x := bo_of (by kernel_rfl)
theorem sp_tkind_tcard : specC [con_tcard] k_tcard = tcard_s := rfl
def tkind_s : Spec := fun ds Q => OkS (ds.take 37) ∧ 0 ≤ argI ds 37 ∧ argI ds 37 < (argL ds 0).length ∧ ∀ rs, rs.map strip = cardP (cardI (ds.take 37) (argI ds 37)) → Q rs
theorem strip_isNil {d : Dat} (h : strip d = .nil) : isNilI d = true := by
  cases d with
  | int k m => rw [strip_int] at h; cases h
  | bool b => rw [strip_bool] at h; cases h
  | list v sz xs => rw [strip_list] at h; cases h
  | rows xs => rw [strip_rows] at h; cases h
  | val v =>
    rw [strip_val] at h
    unfold stripV at h
    split at h <;> first | (cases h; done) | rfl
theorem tkind_h : Holds E0 k_tkind sg_tkind tkind_s := con_fn wf0 mix0 g0 [con_tcard] rfl wk_tkind rfl (by
  intro Φ hΦ ds Q hs ⟨hok, h0, h1, h⟩
  have hl : ds.length = 38 := hs.length.symm
  have s1 : Φ k_tcard = tcard_s := by rw [hΦ]; rfl
  clear hΦ
  simp only [tr_tkind, wp, den_int, den_bool, den_nili, den_ar, den_cmp, den_not, den_len, den_elem, den_isnil, den_errI, den_ifc, den_rep, den_push, den_app, den_emp, den_upd, row0_econs, row0_enil, den_and, den_beq, den_nil, toInt_int, toBool_bool, xs_rows, xs_list, dflt_int, dflt_bool, of_eq, of_ne, of_lt, of_le, of_gt, of_ge, of_add, of_sub, of_rem, List.map_cons, List.map_nil, Dat.bool.injEq, decide_eq_true_eq, decide_eq_false_iff_not, Bool.not_eq_true', Bool.not_eq_false', beq_iff_eq, bne_iff_ne, beq_eq_false_iff_ne, bne_eq_false_iff_eq, ne_eq, List.append_assoc, List.cons_append, List.nil_append, allS, s1, tcard_s, psp, @den_var0 E0.Δ ds, den_varA, den_varB, hl, Nat.reduceLT, Nat.reduceLeDiff, Nat.reduceSub, List.getD_cons_zero, List.getD_cons_succ, argL_fold ds, argI_fold ds, List.append_assoc, List.cons_append, List.nil_append, toInt_int, toBool_bool, xs_rows, xs_list, Int.toNat_natCast, Dat.bool.injEq]
  obtain ⟨c0, c1⟩ := hok.cards h0 (by rw [argL_t (by omega)]; exact h1)
  have e : ∀ d, strip (((argL ds 0).getD (argI ds 37).toNat []).getD 0 d) = .int (cardI (ds.take 37) (argI ds 37)) := fun d => by
    have := int_el hs (i := 0) (r := 36) (c := 0) (k := .i64) (j := (argI ds 37).toNat) rfl rfl (by omega) d
    rw [this, strip_int, cardI, obj_t]
  refine ⟨h0, h1, _, (by rw [e]; exact tcard_in c0 c1), fun rs hr => ?_⟩
  obtain ⟨l1, l2⟩ := card13 c0 c1 hr
  have e13 : isNilI (rs.getD 13 (.bool false)) = true := strip_isNil (getD_strip hr (by rw [List.getElem?_append_right (by rw [card_len c0 c1]; decide), card_len c0 c1]; rfl) _)
  rw [take13 l1, e13]
  exact ⟨fun hx => absurd hx (by decide), fun _ => h _ l2⟩)
noncomputable def con_tkind : Con E0 := ⟨k_tkind, sg_tkind, tkind_s, rfl, bo_tkind, tkind_h⟩
def k_tcreature : Nat := 77
def sg_tcreature : Sig := ⟨[(true, [.list 36] ++ List.replicate 11 (.list 3) ++ List.replicate 25 (.int .i64)), (false, [.int .i64])], [(false, [.bool])], false, false, true, false, false⟩
def tr_tcreature : Tree := (.ite (.cmp .ge (.var 37) (.int .i64 0))
 (.ite (.cmp .lt (.var 37) (.len (.var 0)))
  (.ite (.cmp .eq (.elem (.var 0) (.var 37) 3 (.int .i64)) (.int .i64 8))
   (.call k_tkind [(.var 0), (.var 1), (.var 2), (.var 3), (.var 4), (.var 5), (.var 6), (.var 7), (.var 8), (.var 9), (.var 10), (.var 11), (.var 12), (.var 13), (.var 14), (.var 15), (.var 16), (.var 17), (.var 18), (.var 19), (.var 20), (.var 21), (.var 22), (.var 23), (.var 24), (.var 25), (.var 26), (.var 27), (.var 28), (.var 29), (.var 30), (.var 31), (.var 32), (.var 33), (.var 34), (.var 35), (.var 36), (.var 37)] [(.int .i64), (.int .i64), .bool, (.int .i64), (.int .i64), (.int .i64), (.int .i64), (.int .i64), (.int .i64), (.int .i64), (.int .i64), (.int .i64), (.list 59)]
   (.ret [(.cmp .eq (.var 38) (.int .i64 1))]))
   (.ret [(.bool false)]))
  (.ret [(.bool false)]))
 (.ret [(.bool false)]))
theorem wk_tcreature : walk E0.cx (sgsN [(117, sg_tkind)]) 0 77 sg_tcreature = tr_tcreature := by kernel_rfl
theorem bo_tcreature : ∃ x, bodyOf E0.P 77 = some x := bo_of (by kernel_rfl)
theorem sp_tcreature_tkind : specC [con_tkind] k_tkind = tkind_s := rfl
def tcreature_s : Spec := fun ds Q => OkS (ds.take 37) ∧ Q [.bool (isC (ds.take 37) (argI ds 37))]
theorem tcreature_h : Holds E0 k_tcreature sg_tcreature tcreature_s := con_fn wf0 mix0 g0 [con_tkind] rfl wk_tcreature rfl (by
  intro Φ hΦ ds Q hs ⟨hok, h⟩
  have hl : ds.length = 38 := hs.length.symm
  have s1 : Φ k_tkind = tkind_s := by rw [hΦ]; rfl
  clear hΦ
  have hl2 : (argL (ds.take 37) 0).length = (argL ds 0).length := by rw [argL_t (by omega)]
  have no : isC (ds.take 37) (argI ds 37) = false → Q [.bool false] := fun e => by rw [← e]; exact h
  simp only [tr_tcreature, wp, den_int, den_bool, den_nili, den_ar, den_cmp, den_not, den_len, den_elem, den_isnil, den_errI, den_ifc, den_rep, den_push, den_app, den_emp, den_upd, row0_econs, row0_enil, den_and, den_beq, den_nil, toInt_int, toBool_bool, xs_rows, xs_list, dflt_int, dflt_bool, of_eq, of_ne, of_lt, of_le, of_gt, of_ge, of_add, of_sub, of_rem, List.map_cons, List.map_nil, Dat.bool.injEq, decide_eq_true_eq, decide_eq_false_iff_not, Bool.not_eq_true', Bool.not_eq_false', beq_iff_eq, bne_iff_ne, beq_eq_false_iff_ne, bne_eq_false_iff_eq, ne_eq, List.append_assoc, List.cons_append, List.nil_append, allS, s1, tkind_s, @den_var0 E0.Δ ds, den_varA, den_varB, hl, Nat.reduceLT, Nat.reduceLeDiff, Nat.reduceSub, List.getD_cons_zero, List.getD_cons_succ, argL_fold ds, argI_fold ds, List.append_assoc, List.cons_append, List.nil_append, toInt_int, toBool_bool, xs_rows, xs_list, Int.toNat_natCast, Dat.bool.injEq, dflt_int, fold37x (show 37 ≤ ds.length by omega), take_ta (show 37 ≤ ds.length by omega), argI_ta (show 37 ≤ ds.length by omega) 0, argL_ta (i := 0) (show 0 < 37 by omega) (show 37 ≤ ds.length by omega), argI_c0, argI_fold ds, toInt_getD]
  have hobj : rowI ((argL ds 0).getD (argI ds 37).toNat []) 3 = rowI (obj (ds.take 37) (argI ds 37)) 3 := by rw [obj_t]
  have eC : ∀ b0 b1 b2 b3 : Bool, decide (0 ≤ argI ds 37) = b0 → decide (argI ds 37 < (argL ds 0).length) = b1 → (rowI ((argL ds 0).getD (argI ds 37).toNat []) 3 == 8) = b2 → (cI (cardI (ds.take 37) (argI ds 37)) 0 == 1) = b3 → isC (ds.take 37) (argI ds 37) = (b0 && b1 && b2 && b3) := fun b0 b1 b2 b3 e0 e1 e2 e3 => by
    unfold isC
    rw [hl2, ← hobj, e0, e1, e2, e3]
  refine ⟨fun h0 => ⟨fun h1 => ⟨fun h2 => ?_, fun h2 => no ?_⟩, fun h1 => no ?_⟩, fun h0 => no ?_⟩
  · obtain ⟨c0, c1⟩ := hok.cards h0 (by rw [hl2]; exact h1)
    refine ⟨hok, h0, h1, fun rs hr => ?_⟩
    rw [card_int c0 c1 hr (i := 0) rfl]
    have := eC true true true _ (decide_eq_true h0) (decide_eq_true h1) (by rw [h2]; rfl) rfl
    rw [Bool.true_and, Bool.true_and, Bool.true_and] at this
    rw [← this]
    exact h
  · rw [eC _ _ false _ rfl rfl (by simpa using h2) rfl]; simp
  · rw [eC _ false _ _ rfl (decide_eq_false h1) rfl rfl]; simp
  · rw [eC false _ _ _ (decide_eq_false h0) rfl rfl rfl]; simp)
noncomputable def con_tcreature : Con E0 := ⟨k_tcreature, sg_tcreature, tcreature_s, rfl, bo_tcreature, tcreature_h⟩
def idxP (p : List Dat → Bool) (l : List (List Dat)) (n : Nat) : List Nat := (List.range n).filter fun i => p (l.getD i [])
def rowN (i : Nat) : List Dat := [.int .i64 (i : Int)]
def k_tUses : Nat := 121
def sg_tUses : Sig := ⟨[(true, [.int .i64, .int .i64] ++ [.bool] ++ List.replicate 9 (.int .i64) ++ [.list 59]), (false, [.int .i64])], [(false, [.rows 3])], true, false, true, false, false⟩
def tr_tUses : Tree := (.loop [.emp, (.int .i64 0)] [(.rows 3), (.int .i64)]
 (.ite (.cmp .lt (.var 15) (.len (.var 12)))
  (.ob (.cmp .ge (.var 15) (.int .i64 0))
  (.ite (.cmp .eq (.elem (.var 12) (.var 15) 0 (.int .i64)) (.var 13))
   (.ob (.cmp .le (.len (.push (.var 14) (.econs (.var 15) .enil))) (.int .i64 17592186044416))
   (.again 0 [(.push (.var 14) (.econs (.var 15) .enil)), (.ar .add .i64 (.var 15) (.int .i64 1))]))
   (.again 0 [(.var 14), (.ar .add .i64 (.var 15) (.int .i64 1))])))
  (.ret [(.var 14)])))
theorem wk_tUses : walk E0.cx (sgsN []) 0 121 sg_tUses = tr_tUses := by kernel_rfl
theorem bo_tUses : ∃ x, bodyOf E0.P 121 = some x := bo_of (by kernel_rfl)
def tUses_s : Spec := fun ds Q => (argL ds 12).length ≤ 1000000 ∧ Q [.rows ((idxP (fun a => rowI a 0 == argI ds 13) (argL ds 12) (argL ds 12).length).map rowN)]
theorem tUses_h : Holds E0 k_tUses sg_tUses tUses_s := con_fn wf0 mix0 g0 [] rfl wk_tUses rfl (by
  intro Φ hΦ ds Q hs ⟨hsm, h⟩
  have hl : ds.length = 14 := hs.length.symm
  clear hΦ
  simp only [tr_tUses, wp, den_int, den_bool, den_nili, den_ar, den_cmp, den_not, den_len, den_elem, den_isnil, den_errI, den_ifc, den_rep, den_push, den_app, den_emp, den_upd, row0_econs, row0_enil, den_and, den_beq, den_nil, toInt_int, toBool_bool, xs_rows, xs_list, dflt_int, dflt_bool, of_eq, of_ne, of_lt, of_le, of_gt, of_ge, of_add, of_sub, of_rem, List.map_cons, List.map_nil, Dat.bool.injEq, decide_eq_true_eq, decide_eq_false_iff_not, Bool.not_eq_true', Bool.not_eq_false', beq_iff_eq, bne_iff_ne, beq_eq_false_iff_ne, bne_eq_false_iff_eq, ne_eq, List.append_assoc, List.cons_append, List.nil_append, allS, @den_var0 E0.Δ ds, den_varA, den_varB, hl, Nat.reduceLT, Nat.reduceLeDiff, Nat.reduceSub, List.getD_cons_zero, List.getD_cons_succ, argL_fold ds, argI_fold ds, List.append_assoc, List.cons_append, List.nil_append, toInt_int, toBool_bool, xs_rows, xs_list, Int.toNat_natCast, Dat.bool.injEq, dflt_int, toInt_getD, den_or, List.getElem?_cons_zero]
  refine ⟨fun xs m => ∃ k : Nat, k ≤ (argL ds 12).length ∧ m = (argL ds 12).length - k ∧ xs = [.rows ((idxP (fun a => rowI a 0 == argI ds 13) (argL ds 12) k).map rowN), .int .i64 k], ⟨_, 0, by omega, rfl, rfl⟩, ?_⟩
  rintro d hd n m ⟨k, hk, hm, e⟩
  cases e
  subst hm
  refine ⟨fun hlt => ?_, fun hge => ?_⟩
  · have hk2 : k < (argL ds 12).length := by omega
    rw [Int.toNat_natCast]
    have hw : IntKind.i64.wrap ((k : Int) + 1) = ((k + 1 : Nat) : Int) := by rw [wrap64 (by omega) (by omega)]; rfl
    have hlen : (idxP (fun a => rowI a 0 == argI ds 13) (argL ds 12) k).length ≤ k := by
      have := List.length_filter_le (fun i => rowI ((argL ds 12).getD i []) 0 == argI ds 13) (List.range k)
      rw [List.length_range] at this
      exact this
    have hs' : idxP (fun a => rowI a 0 == argI ds 13) (argL ds 12) (k + 1) = idxP (fun a => rowI a 0 == argI ds 13) (argL ds 12) k ++ (if (rowI ((argL ds 12).getD k []) 0 == argI ds 13) = true then [k] else []) := by
      unfold idxP
      rw [List.range_succ, List.filter_append]
      congr 1
      rw [List.filter_cons, List.filter_nil]
    refine ⟨by omega, fun hy => ⟨?_, _, (by omega : (argL ds 12).length - (k + 1) < _), k + 1, by omega, rfl, ?_⟩, fun hy => ⟨_, (by omega : (argL ds 12).length - (k + 1) < _), k + 1, by omega, rfl, ?_⟩⟩
    · simp only [xs_rows, List.length_append, List.length_map, List.length_cons, List.length_nil]; omega
    · rw [hw, hs', if_pos (by rw [hy, beq_self_eq_true]), List.map_append, xs_rows]; rfl
    · rw [hw, hs', if_neg (by simpa using hy), List.append_nil]
  · obtain rfl : k = (argL ds 12).length := by omega
    exact h)
noncomputable def con_tUses : Con E0 := ⟨k_tUses, sg_tUses, tUses_s, rfl, bo_tUses, tUses_h⟩
theorem filter_range {α : Type} (p : α → Bool) (l : List α) (d : α) : ((List.range l.length).filter fun i => p (l.getD i d)).map (l.getD · d) = l.filter p := by
  have e : l = (List.range l.length).map (l.getD · d) := by
    refine List.ext_getElem (by simp) fun i h1 h2 => ?_
    simp [List.getD_eq_getElem?_getD, h1]
  conv => rhs; rw [e]
  rw [List.filter_map]
  rfl
/-- a static as the program keeps it -/
def encT (S : List Dat) (y : Int × Stc) : List PD := [.int y.1, .int (rowI (obj S y.1) 2), .int y.2.1, .int y.2.2.1, .int y.2.2.2.1, .int y.2.2.2.2, .int 2, .list 5 []]
theorem when_row {a : List Dat} {w : Int} (hl : a.length = 14) (hi : ∃ k, (a.map strip).getD 0 .odd = .int k) : whenP w (a.map strip) = (rowI a 0 == w) := by
  obtain ⟨k, hk⟩ := hi
  match a, hl with
  | y :: a, _ =>
    have hk' : strip y = .int k := hk
    have : rowI (y :: a) 0 = k := strip_isInt hk'
    unfold whenP
    rw [hk, this]; rfl
theorem abRow {a : List Dat} {t : Stc} (h : (a.map strip).drop 9 = encD t) : (∀ d, strip (a.getD 10 d) = .int t.1) ∧ ∀ d, ∃ v sub, a.getD 13 d = .list v 5 [sub] ∧ sub.map strip = [.int t.2.1, .int t.2.2.1, .int t.2.2.2, .int 2, .list 5 []] := by
  have g : ∀ i p, (encD t)[i]? = some p → (a.map strip)[9 + i]? = some p := fun i p hp => by rw [← h, List.getElem?_drop] at hp; exact hp
  refine ⟨fun d => getD_strip rfl (g 1 _ rfl) d, fun d => ?_⟩
  obtain ⟨v, xs, h1, h2⟩ := strip_isList (getD_strip (f := strip) (l := a) rfl (g 4 _ rfl) d)
  cases xs with
  | nil => cases h2
  | cons sub xs =>
    cases xs with
    | cons _ _ => simp at h2
    | nil =>
      simp only [List.map_cons, List.map_nil, List.cons.injEq, and_true] at h2
      exact ⟨v, sub, h1, h2.symm⟩
theorem map5 {α β : Type} {f : α → β} {l : List α} {a b c d e : β} (h : l.map f = [a, b, c, d, e]) : ∃ x0 x1 x2 x3 x4, l = [x0, x1, x2, x3, x4] ∧ f x0 = a ∧ f x1 = b ∧ f x2 = c ∧ f x3 = d ∧ f x4 = e := by
  obtain ⟨x0, l, rfl, h0, h⟩ := List.map_eq_cons_iff.1 h
  obtain ⟨x1, l, rfl, h1, h⟩ := List.map_eq_cons_iff.1 h
  obtain ⟨x2, l, rfl, h2, h⟩ := List.map_eq_cons_iff.1 h
  obtain ⟨x3, l, rfl, h3, h⟩ := List.map_eq_cons_iff.1 h
  obtain ⟨x4, l, rfl, h4, h⟩ := List.map_eq_cons_iff.1 h
  rw [List.map_eq_nil_iff] at h
  subst h
  exact ⟨x0, x1, x2, x3, x4, rfl, h0, h1, h2, h3, h4⟩
def k_tstatics : Nat := 82
def sg_tstatics : Sig := ⟨[(true, [.list 36] ++ List.replicate 11 (.list 3) ++ List.replicate 25 (.int .i64))], [(false, [.list 143])], false, false, true, false, false⟩
def tr_tstatics : Tree := (.loop [.emp, (.int .i64 0)] [(.rows 143), (.int .i64)]
 (.ite (.cmp .lt (.var 38) (.len (.var 9)))
  (.ob (.cmp .ge (.var 38) (.int .i64 0))
  (.call k_tkind [(.var 0), (.var 1), (.var 2), (.var 3), (.var 4), (.var 5), (.var 6), (.var 7), (.var 8), (.var 9), (.var 10), (.var 11), (.var 12), (.var 13), (.var 14), (.var 15), (.var 16), (.var 17), (.var 18), (.var 19), (.var 20), (.var 21), (.var 22), (.var 23), (.var 24), (.var 25), (.var 26), (.var 27), (.var 28), (.var 29), (.var 30), (.var 31), (.var 32), (.var 33), (.var 34), (.var 35), (.var 36), (.elem (.var 9) (.var 38) 0 (.int .i64))] [(.int .i64), (.int .i64), .bool, (.int .i64), (.int .i64), (.int .i64), (.int .i64), (.int .i64), (.int .i64), (.int .i64), (.int .i64), (.int .i64), (.list 59)]
  (.call k_tUses [(.var 39), (.var 40), (.var 41), (.var 42), (.var 43), (.var 44), (.var 45), (.var 46), (.var 47), (.var 48), (.var 49), (.var 50), (.var 51), (.int .i64 5)] [(.rows 3)]
  (.loop [(.var 37), (.int .i64 0)] [(.rows 143), (.int .i64)]
   (.ite (.cmp .lt (.var 54) (.len (.app .emp (.var 52))))
    (.ob (.cmp .ge (.var 54) (.int .i64 0))
    (.ob (.cmp .ge (.elem (.app .emp (.var 52)) (.var 54) 0 (.int .i64)) (.int .i64 0))
    (.ob (.cmp .lt (.elem (.app .emp (.var 52)) (.var 54) 0 (.int .i64)) (.len (.var 51)))
    (.ob (.cmp .ge (.elem (.var 9) (.var 38) 0 (.int .i64)) (.int .i64 0))
    (.ob (.cmp .lt (.elem (.var 9) (.var 38) 0 (.int .i64)) (.len (.var 0)))
    (.ob (.cmp .lt (.int .i64 0) (.len (.elem (.var 51) (.elem (.app .emp (.var 52)) (.var 54) 0 (.int .i64)) 13 (.list 57))))
    (.ob (.cmp .le (.len (.push (.var 53) (.econs (.elem (.var 9) (.var 38) 0 (.int .i64)) (.econs (.elem (.var 0) (.elem (.var 9) (.var 38) 0 (.int .i64)) 2 (.int .i64)) (.econs (.elem (.var 51) (.elem (.app .emp (.var 52)) (.var 54) 0 (.int .i64)) 10 (.int .i64)) (.econs (.elem (.elem (.var 51) (.elem (.app .emp (.var 52)) (.var 54) 0 (.int .i64)) 13 (.list 57)) (.int .i64 0) 0 (.int .i64)) (.econs (.elem (.elem (.var 51) (.elem (.app .emp (.var 52)) (.var 54) 0 (.int .i64)) 13 (.list 57)) (.int .i64 0) 1 (.int .i64)) (.econs (.elem (.elem (.var 51) (.elem (.app .emp (.var 52)) (.var 54) 0 (.int .i64)) 13 (.list 57)) (.int .i64 0) 2 (.int .i64)) (.econs (.elem (.elem (.var 51) (.elem (.app .emp (.var 52)) (.var 54) 0 (.int .i64)) 13 (.list 57)) (.int .i64 0) 3 (.int .i64)) (.econs (.elem (.elem (.var 51) (.elem (.app .emp (.var 52)) (.var 54) 0 (.int .i64)) 13 (.list 57)) (.int .i64 0) 4 (.list 57)) .enil)))))))))) (.int .i64 1759218604441))
    (.again 1 [(.push (.var 53) (.econs (.elem (.var 9) (.var 38) 0 (.int .i64)) (.econs (.elem (.var 0) (.elem (.var 9) (.var 38) 0 (.int .i64)) 2 (.int .i64)) (.econs (.elem (.var 51) (.elem (.app .emp (.var 52)) (.var 54) 0 (.int .i64)) 10 (.int .i64)) (.econs (.elem (.elem (.var 51) (.elem (.app .emp (.var 52)) (.var 54) 0 (.int .i64)) 13 (.list 57)) (.int .i64 0) 0 (.int .i64)) (.econs (.elem (.elem (.var 51) (.elem (.app .emp (.var 52)) (.var 54) 0 (.int .i64)) 13 (.list 57)) (.int .i64 0) 1 (.int .i64)) (.econs (.elem (.elem (.var 51) (.elem (.app .emp (.var 52)) (.var 54) 0 (.int .i64)) 13 (.list 57)) (.int .i64 0) 2 (.int .i64)) (.econs (.elem (.elem (.var 51) (.elem (.app .emp (.var 52)) (.var 54) 0 (.int .i64)) 13 (.list 57)) (.int .i64 0) 3 (.int .i64)) (.econs (.elem (.elem (.var 51) (.elem (.app .emp (.var 52)) (.var 54) 0 (.int .i64)) 13 (.list 57)) (.int .i64 0) 4 (.list 57)) .enil))))))))), (.ar .add .i64 (.var 54) (.int .i64 1))]))))))))
    (.again 0 [(.var 53), (.ar .add .i64 (.var 38) (.int .i64 1))]))))))
  (.share 143 (.var 37)
  (.ret [(.var 39)]))))
theorem wk_tstatics : walk E0.cx (sgsN [(117, sg_tkind), (121, sg_tUses)]) 0 82 sg_tstatics = tr_tstatics := by kernel_rfl
theorem bo_tstatics : ∃ x, bodyOf E0.P 82 = some x := bo_of (by kernel_rfl)
theorem sp_tstatics_tkind : specC [con_tkind, con_tUses] k_tkind = tkind_s := rfl
theorem sp_tstatics_tUses : specC [con_tkind, con_tUses] k_tUses = tUses_s := rfl
def tstatics_s : Spec := fun ds Q => OkS (ds.take 37) ∧ ∀ v xs, (xs.map fun r => r.map strip) = (stcs (ds.take 37)).map (encT (ds.take 37)) → Q [.list v 8 xs]
theorem tstatics_h : Holds E0 k_tstatics sg_tstatics tstatics_s := con_fn wf0 mix0 g0 [con_tkind, con_tUses] rfl wk_tstatics rfl (by
  intro Φ hΦ ds Q hs ⟨hok, h⟩
  have hl : ds.length = 37 := hs.length.symm
  have s1 : Φ k_tkind = tkind_s := by rw [hΦ]; rfl
  have s2 : Φ k_tUses = tUses_s := by rw [hΦ]; rfl
  clear hΦ
  have hml : (lst (ds.take 37) 8).length = (argL ds 9).length := lst_lenT ds (z := 8) (by omega)
  have hsm := hok.small 9 (by omega)
  rw [argL_t (by omega)] at hsm
  have hol : (argL (ds.take 37) 0).length = (argL ds 0).length := by rw [argL_t (by omega)]
  simp only [tr_tstatics, wp, den_int, den_bool, den_nili, den_ar, den_cmp, den_not, den_len, den_elem, den_isnil, den_errI, den_ifc, den_rep, den_push, den_app, den_emp, den_upd, row0_econs, row0_enil, den_and, den_beq, den_nil, toInt_int, toBool_bool, xs_rows, xs_list, dflt_int, dflt_bool, of_eq, of_ne, of_lt, of_le, of_gt, of_ge, of_add, of_sub, of_rem, List.map_cons, List.map_nil, Dat.bool.injEq, decide_eq_true_eq, decide_eq_false_iff_not, Bool.not_eq_true', Bool.not_eq_false', beq_iff_eq, bne_iff_ne, beq_eq_false_iff_ne, bne_eq_false_iff_eq, ne_eq, List.append_assoc, List.cons_append, List.nil_append, allS, s1, s2, tkind_s, tUses_s, @den_var0 E0.Δ ds, den_varA, den_varB, hl, Nat.reduceLT, Nat.reduceLeDiff, Nat.reduceSub, List.getD_cons_zero, List.getD_cons_succ, argL_fold ds, argI_fold ds, List.append_assoc, List.cons_append, List.nil_append, toInt_int, toBool_bool, xs_rows, xs_list, Int.toNat_natCast, Dat.bool.injEq, dflt_int, fold37x (show 37 ≤ ds.length by omega), take_ta (show 37 ≤ ds.length by omega), argI_ta (show 37 ≤ ds.length by omega) 0, argL_ta (i := 0) (show 0 < 37 by omega) (show 37 ≤ ds.length by omega), argI_c0, argI_fold ds, toInt_getD, den_or, List.getElem?_cons_zero, ← obj_t]
  refine ⟨fun xs m => ∃ (k : Nat) (ys : List (List Dat)), k ≤ (argL ds 9).length ∧ m = (argL ds 9).length - k ∧ xs = [.rows ys, .int .i64 k] ∧ (ys.map fun r => r.map strip) = ((lst (ds.take 37) 8).take k).flatMap (fun x => (statsOf (cardI (ds.take 37) x)).map fun t => encT (ds.take 37) (x, t)) ∧ ys.length ≤ 2 * k, ⟨_, 0, [], by omega, rfl, rfl, rfl, Nat.le_refl _⟩, ?_⟩
  rintro d hd n m ⟨k, ys, hk, hm, e, hys, hyl⟩
  cases e
  subst hm
  refine ⟨fun hlt => ?_, fun hge A c => ?_⟩
  · have hk2 : k < (argL ds 9).length := by omega
    rw [Int.toNat_natCast]
    have hx : ∀ dd, ((argL ds 9).getD k []).getD 0 dd = .int .i64 (rowI ((argL ds 9).getD k []) 0) := fun dd => int_el hs (i := 9) (r := 3) (c := 0) (k := .i64) rfl rfl hk2 dd
    have hg := lst_getDT ds (z := 8) (by omega) hk2
    have htk : (lst (ds.take 37) 8).take (k + 1) = (lst (ds.take 37) 8).take k ++ [rowI ((argL ds 9).getD k []) 0] := by rw [take_succ_getD (d := 0) (by omega), hg]
    have hmem : rowI ((argL ds 9).getD k []) 0 ∈ lst (ds.take 37) 8 := by rw [← hg]; exact getD_memL (by omega)
    obtain ⟨f0, f1⟩ := hok.field _ hmem
    have hcd := hok.cards f0 f1
    rw [hol] at f1
    rw [hx]
    generalize rowI ((argL ds 9).getD k []) 0 = x at *
    have hw : IntKind.i64.wrap ((k : Int) + 1) = ((k + 1 : Nat) : Int) := by rw [wrap64 (by omega) (by omega)]; rfl
    refine ⟨by omega, hok, f0, f1, fun rs hr => ?_⟩
    have hrl := card_rlen hcd.1 hcd.2 hr
    obtain ⟨v, bs, hv, ha⟩ := card_row hcd.1 hcd.2 hr (.bool false)
    have F := cardF hcd.1 hcd.2
    match rs, hrl with
    | [x0, x1, x2, x3, x4, x5, x6, x7, x8, x9, x10, x11, x12], _ =>
    simp only [List.getD_cons_succ, List.getD_cons_zero] at hv
    subst hv
    simp only [@den_var0 E0.Δ ds, den_varA, den_varB, hl, Nat.reduceLT, Nat.reduceLeDiff, Nat.reduceSub, List.getD_cons_zero, List.getD_cons_succ, argL_fold ds, argI_fold ds, List.append_assoc, List.cons_append, List.nil_append, toInt_int, toBool_bool, xs_rows, xs_list, Int.toNat_natCast, Dat.bool.injEq, List.cons_append, List.nil_append, List.getElem?_cons_succ, List.getElem?_cons_zero]
    simp only [argL_c1, argL_c0, argI_c1, argI_c0, xs_list, toInt_int]
    have hgb : ∀ i, (absP (cardI (ds.take 37) x)).getD i [] = (bs.getD i []).map strip := fun i => by
      rw [ha, List.getD_eq_getElem?_getD, List.getD_eq_getElem?_getD, List.getElem?_map]
      cases bs[i]? <;> rfl
    have hbl : (absP (cardI (ds.take 37) x)).length = bs.length := by rw [ha, List.length_map]
    have hmA : ∀ i, i < bs.length → (bs.getD i []).map strip ∈ absP (cardI (ds.take 37) x) := fun i hi => by rw [← hgb]; exact getD_memL (by omega)
    have hwh : ∀ i, i < bs.length → whenP 5 ((bs.getD i []).map strip) = (rowI (bs.getD i []) 0 == 5) := fun i hi => when_row (by have := F.len _ (hmA i hi); rwa [List.length_map] at this) (F.int _ (hmA i hi))
    have hJf : (idxP (fun a => rowI a 0 == 5) bs bs.length).map (fun i => (bs.getD i []).map strip) = (absP (cardI (ds.take 37) x)).filter (whenP 5) := by
      rw [← filter_range (whenP 5) (absP (cardI (ds.take 37) x)) [], hbl]
      unfold idxP
      rw [List.filter_congr (q := fun i => whenP 5 ((absP (cardI (ds.take 37) x)).getD i [])) fun i hi => by rw [hgb]; exact (hwh i (List.mem_range.1 hi)).symm]
      exact List.map_congr_left fun i _ => (hgb i).symm
    have hJm : ∀ i ∈ idxP (fun a => rowI a 0 == 5) bs bs.length, i < bs.length ∧ ((bs.getD i []).map strip).drop 9 = encD (stcOf ((bs.getD i []).map strip)) := fun i hi => by
      have h1 := hi
      unfold idxP at h1
      obtain ⟨h2, h3⟩ := List.mem_filter.1 h1
      have h4 := List.mem_range.1 h2
      refine ⟨h4, ?_⟩
      have h5 : (bs.getD i []).map strip ∈ (absP (cardI (ds.take 37) x)).filter (whenP 5) := List.mem_filter.2 ⟨hmA i h4, by rw [hwh i h4]; exact h3⟩
      have h6 := F.enc
      unfold statsOf at h6
      rw [List.map_map] at h6
      exact List.map_inj_left.1 h6 _ h5
    have hJl : (idxP (fun a => rowI a 0 == 5) bs bs.length).length ≤ bs.length := by
      have := List.length_filter_le (fun i => rowI (bs.getD i []) 0 == 5) (List.range bs.length)
      rw [List.length_range] at this
      exact this
    have h2l := F.two
    rw [hbl] at h2l
    have hst : (statsOf (cardI (ds.take 37) x)).map (fun t => encT (ds.take 37) (x, t)) = (idxP (fun a => rowI a 0 == 5) bs bs.length).map fun i => encT (ds.take 37) (x, stcOf ((bs.getD i []).map strip)) := by
      unfold statsOf
      rw [← hJf, List.map_map, List.map_map]
      rfl
    generalize idxP (fun a => rowI a 0 == 5) bs bs.length = J at *
    have ho2 : ∀ d, strip ((obj (ds.take 37) x).getD 2 d) = .int (rowI (obj (ds.take 37) x) 2) := fun d => by
      have := int_el hs (i := 0) (r := 36) (c := 2) (k := .i64) (j := x.toNat) rfl rfl (by omega) d
      rw [obj_t, this, strip_int]
    refine ⟨by omega, fun xs m => ∃ (q : Nat) (zs : List (List Dat)), q ≤ J.length ∧ m = J.length - q ∧ xs = [.rows zs, .int .i64 q] ∧ (zs.map fun r => r.map strip) = ((lst (ds.take 37) 8).take k).flatMap (fun x => (statsOf (cardI (ds.take 37) x)).map fun t => encT (ds.take 37) (x, t)) ++ (J.take q).map (fun i => encT (ds.take 37) (x, stcOf ((bs.getD i []).map strip))) ∧ zs.length ≤ 2 * k + q, ⟨_, 0, ys, by omega, rfl, rfl, by rw [hys]; simp, by omega⟩, ?_⟩
    rintro d2 hd2 n2 m2 ⟨q, zs, hq, hm2, e2, hzs, hzl⟩
    cases e2
    subst hm2
    rw [List.length_map]
    refine ⟨fun hlt2 => ?_, fun hge2 => ?_⟩
    · have hq2 : q < J.length := by omega
      rw [Int.toNat_natCast]
      have hjr : (J.map rowN).getD q [] = rowN (J.getD q 0) := by
        rw [List.getD_eq_getElem?_getD, List.getD_eq_getElem?_getD, List.getElem?_map, List.getElem?_eq_getElem hq2]; rfl
      have hjm := hJm _ (getD_memL (d := 0) hq2)
      have htq : J.take (q + 1) = J.take q ++ [J.getD q 0] := take_succ_getD hq2
      rw [hjr]
      generalize J.getD q 0 = i at *
      have hri : rowI (rowN i) 0 = i := rfl
      rw [hri, Int.toNat_natCast]
      obtain ⟨a10, a13⟩ := abRow hjm.2
      have hil := hjm.1
      obtain ⟨v5, sub, e5, hsub⟩ := a13 (dflt E0.Δ (.list 57))
      obtain ⟨z0, z1, z2, z3, z4, rfl, r0, r1, r2, r3, r4⟩ := map5 hsub
      have hw2 : IntKind.i64.wrap ((q : Int) + 1) = ((q + 1 : Nat) : Int) := by rw [wrap64 (by omega) (by omega)]; rfl
      simp only [e5, xs_list, List.length_cons, List.length_nil, List.getD_cons_zero, Int.toNat_zero]
      refine ⟨by omega, by omega, by omega, f0, f1, by omega, ?_, _, (by omega : J.length - (q + 1) < _), q + 1, _, by omega, rfl, by rw [hw2], ?_, ?_⟩
      · simp only [xs_rows, List.length_append, List.length_cons, List.length_nil]; omega
      · rw [xs_rows, List.map_append, hzs, htq, List.map_append, List.append_assoc]
        congr 2
        simp only [List.map_cons, List.map_nil, strip_int, ho2, a10]
        simp only [List.getD_cons_zero, List.getD_cons_succ, r0, r1, r2, r3, r4]
        rfl
      · simp only [xs_rows, List.length_append, List.length_cons, List.length_nil]; omega
    · have hq3 : q = J.length := by omega
      refine ⟨_, (by omega : (argL ds 9).length - (k + 1) < _), k + 1, zs, by omega, rfl, by rw [hw], ?_, by omega⟩
      rw [hzs, htk, List.flatMap_append, List.take_of_length_le (by omega : J.length ≤ q), List.flatMap_cons, List.flatMap_nil, List.append_nil, hst]
  · have hk3 : k = (argL ds 9).length := by omega
    refine h _ _ ?_
    have ht : (lst (ds.take 37) 8).take k = lst (ds.take 37) 8 := List.take_of_length_le (by omega)
    rw [xs_rows, hys, ht]
    unfold stcs
    rw [List.map_flatMap]
    refine congrArg (fun f => (lst (ds.take 37) 8).flatMap f) (funext fun x => ?_)
    rw [List.map_map]
    rfl)
noncomputable def con_tstatics : Con E0 := ⟨k_tstatics, sg_tstatics, tstatics_s, rfl, bo_tstatics, tstatics_h⟩
def k_treaches : Nat := 118
def sg_treaches : Sig := ⟨[(true, List.replicate 7 (.int .i64) ++ [.list 57]), (true, [.list 36] ++ List.replicate 11 (.list 3) ++ List.replicate 25 (.int .i64)), (false, [.int .i64])], [(false, [.bool])], false, false, true, false, false⟩
def tr_treaches : Tree := (.ob (.cmp .ge (.var 45) (.int .i64 0))
(.ob (.cmp .lt (.var 45) (.len (.var 8)))
(.ite (.cmp .eq (.var 2) (.int .i64 0))
 (.ret [(.bool true)])
 (.ite (.cmp .eq (.var 2) (.int .i64 1))
  (.ret [(.cmp .eq (.elem (.var 8) (.var 45) 2 (.int .i64)) (.var 1))])
  (.ite (.cmp .eq (.var 2) (.int .i64 2))
   (.ret [(.not (.cmp .eq (.elem (.var 8) (.var 45) 2 (.int .i64)) (.var 1)))])
   (.ret [(.and (.cmp .eq (.elem (.var 8) (.var 45) 2 (.int .i64)) (.var 1)) (.cmp .ne (.var 45) (.var 0)))]))))))
theorem wk_treaches : walk E0.cx (sgsN []) 0 118 sg_treaches = tr_treaches := by kernel_rfl
theorem bo_treaches : ∃ x, bodyOf E0.P 118 = some x := bo_of (by kernel_rfl)
def treaches_s : Spec := fun ds Q => ∃ (y : Int × Stc), okStc y.2 = true ∧ argI ds 0 = y.1 ∧ argI ds 1 = rowI (obj ((ds.drop 8).take 37) y.1) 2 ∧ argI ds 2 = y.2.1 ∧ 0 ≤ argI ds 45 ∧ argI ds 45 < (argL ds 8).length ∧ Q [.bool (inG ((ds.drop 8).take 37) y.1 y.2.1 (argI ds 45))]
theorem treaches_h : Holds E0 k_treaches sg_treaches treaches_s := con_fn wf0 mix0 g0 [] rfl wk_treaches rfl (by
  intro Φ hΦ ds Q hs ⟨y, hy, e0, e1, e2, h0, h1, h⟩
  have hl : ds.length = 46 := hs.length.symm
  clear hΦ
  have ho : obj ((ds.drop 8).take 37) (argI ds 45) = (argL ds 8).getD (argI ds 45).toNat [] := by
    rw [obj_t]
    congr 1
    unfold argL
    rw [List.getD_eq_getElem?_getD, List.getD_eq_getElem?_getD, List.getElem?_drop]
  simp only [tr_treaches, wp, den_int, den_bool, den_nili, den_ar, den_cmp, den_not, den_len, den_elem, den_isnil, den_errI, den_ifc, den_rep, den_push, den_app, den_emp, den_upd, row0_econs, row0_enil, den_and, den_beq, den_nil, toInt_int, toBool_bool, xs_rows, xs_list, dflt_int, dflt_bool, of_eq, of_ne, of_lt, of_le, of_gt, of_ge, of_add, of_sub, of_rem, List.map_cons, List.map_nil, Dat.bool.injEq, decide_eq_true_eq, decide_eq_false_iff_not, Bool.not_eq_true', Bool.not_eq_false', beq_iff_eq, bne_iff_ne, beq_eq_false_iff_ne, bne_eq_false_iff_eq, ne_eq, List.append_assoc, List.cons_append, List.nil_append, allS, @den_var0 E0.Δ ds, den_varA, den_varB, hl, Nat.reduceLT, Nat.reduceLeDiff, Nat.reduceSub, List.getD_cons_zero, List.getD_cons_succ, argL_fold ds, argI_fold ds, List.append_assoc, List.cons_append, List.nil_append, toInt_int, toBool_bool, xs_rows, xs_list, Int.toNat_natCast, Dat.bool.injEq, dflt_int, toInt_getD]
  rw [e0, e1, e2]
  unfold inG at h
  rw [ho] at h
  have hg : 0 ≤ y.2.1 ∧ y.2.1 ≤ 3 := by
    unfold okStc at hy
    simp only [Bool.and_eq_true, decide_eq_true_eq] at hy
    exact hy.1
  refine ⟨h0, h1, fun g0 => ?_, fun g0 => ⟨fun g1 => ?_, fun g1 => ⟨fun g2 => ?_, fun g2 => ?_⟩⟩⟩
  · rw [g0] at h; exact h
  · rw [g1] at h; exact h
  · rw [g2] at h; exact h
  · have g3 : y.2.1 = 3 := by omega
    rw [g3] at h
    have e : (y.1 != argI ds 45) = (argI ds 45 != y.1) := by
      rw [bne_comm]
    rw [e] at h
    exact h)
noncomputable def con_treaches : Con E0 := ⟨k_treaches, sg_treaches, treaches_s, rfl, bo_treaches, treaches_h⟩
end Go.Proofs.YtelfhmeobfimiaaDoor
end
