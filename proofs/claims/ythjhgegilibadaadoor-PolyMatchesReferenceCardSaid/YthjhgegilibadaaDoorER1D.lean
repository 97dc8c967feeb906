/- What one call of each function does, written out: by evaluation; conditions: none. -/
import Derived.KernelRfl
import Derived.Test.YthjhgegilibadaaDoorT
namespace Go.Ab
set_option linter.unusedVariables false
set_option linter.unusedSimpArgs false
set_option linter.unusedVariables false
set_option maxHeartbeats 2000000
set_option maxRecDepth 100000
theorem e3 (C : CallT) (r0 : List (List V)) (r1 : List (List V)) (n2 : Int) (n3 : Int) (n4 : Int) (n5 : Int) (n6 : Int) (n7 : Int) (n8 : Int) (n9 : Int) : run1 GD LD C (.func 3) [.agg [.slice .any r0, .slice .any r1, .int .i64 n2, .int .i8 n3], .agg [.int .i64 n4, .int .i64 n5, .int .i64 n6, .int .i64 n7, .int .i64 n8, .int .i64 n9]] [] =
 (C.p (.func 8) []).bind fun x0 =>
 (asBool (x0)).bind fun x1 =>
 cond (decide (((r0.length : Nat) : Int) ≤ 200)) (
 (C.p (.func 9) [.slice .any r0]).bind fun x190 =>
 (asBool (x190)).bind fun x191 =>
 (C.p (.func 10) [.slice .any r0]).bind fun x192 =>
 (asBool (x192)).bind fun x193 =>
 cond (!(x191 == x193)) (
 some (.bool false, [])) (
 (C.p (.func 11) [.agg [.slice .any r0, .slice .any r1, .int .i64 n2, .int .i8 n3]]).bind fun x194 =>
 (asTuple (x194)).bind fun x195 =>
 (uncons x195).bind fun x196 =>
 (asRows (x196.1)).bind fun x197 =>
 (uncons x196.2).bind fun x198 =>
 (asRows (x198.1)).bind fun x199 =>
 (isNil x198.2).bind fun x200 =>
 (C.p (.func 12) [.agg [.int .i64 n4, .int .i64 n5]]).bind fun x201 =>
 (asCells (x201)).bind fun x202 =>
 (uncons x202).bind fun x203 =>
 (asInt .i64 (x203.1)).bind fun x204 =>
 (uncons x203.2).bind fun x205 =>
 (asInt .i64 (x205.1)).bind fun x206 =>
 (isNil x205.2).bind fun x207 =>
 (C.p (.func 12) [.agg [.int .i64 n6, .int .i64 n7]]).bind fun x208 =>
 (asCells (x208)).bind fun x209 =>
 (uncons x209).bind fun x210 =>
 (asInt .i64 (x210.1)).bind fun x211 =>
 (uncons x210.2).bind fun x212 =>
 (asInt .i64 (x212.1)).bind fun x213 =>
 (isNil x212.2).bind fun x214 =>
 (C.p (.func 12) [.agg [.int .i64 n8, .int .i64 n9]]).bind fun x215 =>
 (asCells (x215)).bind fun x216 =>
 (uncons x216).bind fun x217 =>
 (asInt .i64 (x217.1)).bind fun x218 =>
 (uncons x217.2).bind fun x219 =>
 (asInt .i64 (x219.1)).bind fun x220 =>
 (isNil x219.2).bind fun x221 =>
 (C.p (.func 13) [.slice .any x197, .slice .any x199]).bind fun x222 =>
 (asTuple (x222)).bind fun x223 =>
 (uncons x223).bind fun x224 =>
 (asRows (x224.1)).bind fun x225 =>
 (uncons x224.2).bind fun x226 =>
 (asCells (x226.1)).bind fun x227 =>
 (uncons x227).bind fun x228 =>
 (asInt .i64 (x228.1)).bind fun x229 =>
 (uncons x228.2).bind fun x230 =>
 (asInt .i64 (x230.1)).bind fun x231 =>
 (isNil x230.2).bind fun x232 =>
 (isNil x226.2).bind fun x233 =>
 (C.p (.func 14) [.slice .any x197, .slice .any x199]).bind fun x234 =>
 (asTuple (x234)).bind fun x235 =>
 (uncons x235).bind fun x236 =>
 (asRows (x236.1)).bind fun x237 =>
 (uncons x236.2).bind fun x238 =>
 (asCells (x238.1)).bind fun x239 =>
 (uncons x239).bind fun x240 =>
 (asInt .i64 (x240.1)).bind fun x241 =>
 (uncons x240.2).bind fun x242 =>
 (asInt .i64 (x242.1)).bind fun x243 =>
 (isNil x242.2).bind fun x244 =>
 (isNil x238.2).bind fun x245 =>
 (C.p (.func 15) [.slice .any x197, .slice .any x199, .int .i64 (Int.tmod (IntKind.wrap .i64 n3) 10)]).bind fun x246 =>
 (asTuple (x246)).bind fun x247 =>
 (uncons x247).bind fun x248 =>
 (asRows (x248.1)).bind fun x249 =>
 (uncons x248.2).bind fun x250 =>
 (asCells (x250.1)).bind fun x251 =>
 (uncons x251).bind fun x252 =>
 (asInt .i64 (x252.1)).bind fun x253 =>
 (uncons x252.2).bind fun x254 =>
 (asInt .i64 (x254.1)).bind fun x255 =>
 (isNil x254.2).bind fun x256 =>
 (isNil x250.2).bind fun x257 =>
 (C.p (.func 16) [.slice .any x197, .slice .any x199, .int .i64 (Int.tmod (IntKind.wrap .i64 n3) 10)]).bind fun x258 =>
 (asTuple (x258)).bind fun x259 =>
 (uncons x259).bind fun x260 =>
 (asRows (x260.1)).bind fun x261 =>
 (uncons x260.2).bind fun x262 =>
 (asCells (x262.1)).bind fun x263 =>
 (uncons x263).bind fun x264 =>
 (asInt .i64 (x264.1)).bind fun x265 =>
 (uncons x264.2).bind fun x266 =>
 (asInt .i64 (x266.1)).bind fun x267 =>
 (isNil x266.2).bind fun x268 =>
 (isNil x262.2).bind fun x269 =>
 (C.p (.func 17) [.slice .any x197, .int .i64 (Int.tmod n2 2147483648)]).bind fun x270 =>
 (asTuple (x270)).bind fun x271 =>
 (uncons x271).bind fun x272 =>
 (asRows (x272.1)).bind fun x273 =>
 (uncons x272.2).bind fun x274 =>
 (asCells (x274.1)).bind fun x275 =>
 (uncons x275).bind fun x276 =>
 (asInt .i64 (x276.1)).bind fun x277 =>
 (uncons x276.2).bind fun x278 =>
 (asInt .i64 (x278.1)).bind fun x279 =>
 (isNil x278.2).bind fun x280 =>
 (isNil x274.2).bind fun x281 =>
 (C.p (.func 18) [.slice .any x197, .int .i64 (Int.tmod n2 2147483648)]).bind fun x282 =>
 (asTuple (x282)).bind fun x283 =>
 (uncons x283).bind fun x284 =>
 (asRows (x284.1)).bind fun x285 =>
 (uncons x284.2).bind fun x286 =>
 (asCells (x286.1)).bind fun x287 =>
 (uncons x287).bind fun x288 =>
 (asInt .i64 (x288.1)).bind fun x289 =>
 (uncons x288.2).bind fun x290 =>
 (asInt .i64 (x290.1)).bind fun x291 =>
 (isNil x290.2).bind fun x292 =>
 (isNil x286.2).bind fun x293 =>
 (C.p (.func 19) [.slice .any x197, .int .i64 (Int.tmod (IntKind.wrap .i64 n3) 10)]).bind fun x294 =>
 (asTuple (x294)).bind fun x295 =>
 (uncons x295).bind fun x296 =>
 (asRows (x296.1)).bind fun x297 =>
 (uncons x296.2).bind fun x298 =>
 (asCells (x298.1)).bind fun x299 =>
 (uncons x299).bind fun x300 =>
 (asInt .i64 (x300.1)).bind fun x301 =>
 (uncons x300.2).bind fun x302 =>
 (asInt .i64 (x302.1)).bind fun x303 =>
 (isNil x302.2).bind fun x304 =>
 (isNil x298.2).bind fun x305 =>
 (C.p (.func 20) [.slice .any x197, .int .i64 (Int.tmod (IntKind.wrap .i64 n3) 10)]).bind fun x306 =>
 (asTuple (x306)).bind fun x307 =>
 (uncons x307).bind fun x308 =>
 (asRows (x308.1)).bind fun x309 =>
 (uncons x308.2).bind fun x310 =>
 (asCells (x310.1)).bind fun x311 =>
 (uncons x311).bind fun x312 =>
 (asInt .i64 (x312.1)).bind fun x313 =>
 (uncons x312.2).bind fun x314 =>
 (asInt .i64 (x314.1)).bind fun x315 =>
 (isNil x314.2).bind fun x316 =>
 (isNil x310.2).bind fun x317 =>
 (C.p (.func 21) [.slice .any x225, .slice .any x237]).bind fun x318 =>
 (asBool (x318)).bind fun x319 =>
 cond (!x319) (
 some (.bool false, [])) (
 (C.p (.func 22) [.agg [.int .i64 x229, .int .i64 x231], .agg [.int .i64 x241, .int .i64 x243]]).bind fun x320 =>
 (asBool (x320)).bind fun x321 =>
 cond (!x321) (
 some (.bool false, [])) (
 (C.p (.func 21) [.slice .any x249, .slice .any x261]).bind fun x322 =>
 (asBool (x322)).bind fun x323 =>
 cond (!x323) (
 some (.bool false, [])) (
 (C.p (.func 22) [.agg [.int .i64 x253, .int .i64 x255], .agg [.int .i64 x265, .int .i64 x267]]).bind fun x324 =>
 (asBool (x324)).bind fun x325 =>
 cond (!x325) (
 some (.bool false, [])) (
 (C.p (.func 21) [.slice .any x273, .slice .any x285]).bind fun x326 =>
 (asBool (x326)).bind fun x327 =>
 cond (!x327) (
 some (.bool false, [])) (
 (C.p (.func 22) [.agg [.int .i64 x277, .int .i64 x279], .agg [.int .i64 x289, .int .i64 x291]]).bind fun x328 =>
 (asBool (x328)).bind fun x329 =>
 cond (!x329) (
 some (.bool false, [])) (
 (C.p (.func 21) [.slice .any x297, .slice .any x309]).bind fun x330 =>
 (asBool (x330)).bind fun x331 =>
 cond (!x331) (
 some (.bool false, [])) (
 (C.p (.func 22) [.agg [.int .i64 x301, .int .i64 x303], .agg [.int .i64 x313, .int .i64 x315]]).bind fun x332 =>
 (asBool (x332)).bind fun x333 =>
 cond (!x333) (
 some (.bool false, [])) (
 (C.p (.func 23) [.slice .any x197]).bind fun x334 =>
 (asCells (x334)).bind fun x335 =>
 (uncons x335).bind fun x336 =>
 (asInt .i64 (x336.1)).bind fun x337 =>
 (uncons x336.2).bind fun x338 =>
 (asInt .i64 (x338.1)).bind fun x339 =>
 (isNil x338.2).bind fun x340 =>
 (C.p (.func 24) [.slice .any x197]).bind fun x341 =>
 (asCells (x341)).bind fun x342 =>
 (uncons x342).bind fun x343 =>
 (asInt .i64 (x343.1)).bind fun x344 =>
 (uncons x343.2).bind fun x345 =>
 (asInt .i64 (x345.1)).bind fun x346 =>
 (isNil x345.2).bind fun x347 =>
 (C.p (.func 22) [.agg [.int .i64 x337, .int .i64 x339], .agg [.int .i64 x344, .int .i64 x346]]).bind fun x348 =>
 (asBool (x348)).bind fun x349 =>
 cond x349 (
 (C.p (.func 25) [.slice .any x197, .slice .any [[.int .i64 x204, .int .i64 x206], [.int .i64 x211, .int .i64 x213], [.int .i64 x218, .int .i64 x220]]]).bind fun x350 =>
 (asCells (x350)).bind fun x351 =>
 (uncons x351).bind fun x352 =>
 (asInt .i64 (x352.1)).bind fun x353 =>
 (uncons x352.2).bind fun x354 =>
 (asInt .i64 (x354.1)).bind fun x355 =>
 (isNil x354.2).bind fun x356 =>
 (C.p (.func 26) [.slice .any x197, .slice .any [[.int .i64 x204, .int .i64 x206], [.int .i64 x211, .int .i64 x213], [.int .i64 x218, .int .i64 x220]]]).bind fun x357 =>
 (asCells (x357)).bind fun x358 =>
 (uncons x358).bind fun x359 =>
 (asInt .i64 (x359.1)).bind fun x360 =>
 (uncons x359.2).bind fun x361 =>
 (asInt .i64 (x361.1)).bind fun x362 =>
 (isNil x361.2).bind fun x363 =>
 (C.p (.func 22) [.agg [.int .i64 x353, .int .i64 x355], .agg [.int .i64 x360, .int .i64 x362]]).bind fun x364 =>
 (asBool (x364)).bind fun x365 =>
 cond x365 (
 (C.p (.func 27) [.slice .any x197]).bind fun x366 =>
 (asInt .i64 (x366)).bind fun x367 =>
 (C.p (.func 28) [.slice .any x197]).bind fun x368 =>
 (asInt .i64 (x368)).bind fun x369 =>
 cond (x367 == x369) (
 (C.p (.func 29) [.int .i64 (Int.tmod n2 2147483648)]).bind fun x370 =>
 (asRows (x370)).bind fun x371 =>
 (C.p (.func 30) [.int .i64 (Int.tmod n2 2147483648)]).bind fun x372 =>
 (asRows (x372)).bind fun x373 =>
 (C.p (.func 21) [.slice .any x371, .slice .any x373]).bind fun x374 =>
 (asBool (x374)).bind fun x375 =>
 cond x375 (
 (C.p (.func 31) [.int .i64 (Int.tmod (IntKind.wrap .i64 n3) 10)]).bind fun x376 =>
 (asRows (x376)).bind fun x377 =>
 (C.p (.func 32) [.int .i64 (Int.tmod (IntKind.wrap .i64 n3) 10)]).bind fun x378 =>
 (asRows (x378)).bind fun x379 =>
 (C.p (.func 21) [.slice .any x377, .slice .any x379]).bind fun x380 =>
 (asBool (x380)).bind fun x381 =>
 cond x381 (
 some (.bool x1, [])) (
 some (.bool false, []))) (
 some (.bool false, []))) (
 some (.bool false, []))) (
 some (.bool false, []))) (
 some (.bool false, [])))))))))))) (
 (C.p (.func 11) [.agg [.slice .any r0, .slice .any r1, .int .i64 n2, .int .i8 n3]]).bind fun x2 =>
 (asTuple (x2)).bind fun x3 =>
 (uncons x3).bind fun x4 =>
 (asRows (x4.1)).bind fun x5 =>
 (uncons x4.2).bind fun x6 =>
 (asRows (x6.1)).bind fun x7 =>
 (isNil x6.2).bind fun x8 =>
 (C.p (.func 12) [.agg [.int .i64 n4, .int .i64 n5]]).bind fun x9 =>
 (asCells (x9)).bind fun x10 =>
 (uncons x10).bind fun x11 =>
 (asInt .i64 (x11.1)).bind fun x12 =>
 (uncons x11.2).bind fun x13 =>
 (asInt .i64 (x13.1)).bind fun x14 =>
 (isNil x13.2).bind fun x15 =>
 (C.p (.func 12) [.agg [.int .i64 n6, .int .i64 n7]]).bind fun x16 =>
 (asCells (x16)).bind fun x17 =>
 (uncons x17).bind fun x18 =>
 (asInt .i64 (x18.1)).bind fun x19 =>
 (uncons x18.2).bind fun x20 =>
 (asInt .i64 (x20.1)).bind fun x21 =>
 (isNil x20.2).bind fun x22 =>
 (C.p (.func 12) [.agg [.int .i64 n8, .int .i64 n9]]).bind fun x23 =>
 (asCells (x23)).bind fun x24 =>
 (uncons x24).bind fun x25 =>
 (asInt .i64 (x25.1)).bind fun x26 =>
 (uncons x25.2).bind fun x27 =>
 (asInt .i64 (x27.1)).bind fun x28 =>
 (isNil x27.2).bind fun x29 =>
 (C.p (.func 13) [.slice .any x5, .slice .any x7]).bind fun x30 =>
 (asTuple (x30)).bind fun x31 =>
 (uncons x31).bind fun x32 =>
 (asRows (x32.1)).bind fun x33 =>
 (uncons x32.2).bind fun x34 =>
 (asCells (x34.1)).bind fun x35 =>
 (uncons x35).bind fun x36 =>
 (asInt .i64 (x36.1)).bind fun x37 =>
 (uncons x36.2).bind fun x38 =>
 (asInt .i64 (x38.1)).bind fun x39 =>
 (isNil x38.2).bind fun x40 =>
 (isNil x34.2).bind fun x41 =>
 (C.p (.func 14) [.slice .any x5, .slice .any x7]).bind fun x42 =>
 (asTuple (x42)).bind fun x43 =>
 (uncons x43).bind fun x44 =>
 (asRows (x44.1)).bind fun x45 =>
 (uncons x44.2).bind fun x46 =>
 (asCells (x46.1)).bind fun x47 =>
 (uncons x47).bind fun x48 =>
 (asInt .i64 (x48.1)).bind fun x49 =>
 (uncons x48.2).bind fun x50 =>
 (asInt .i64 (x50.1)).bind fun x51 =>
 (isNil x50.2).bind fun x52 =>
 (isNil x46.2).bind fun x53 =>
 (C.p (.func 15) [.slice .any x5, .slice .any x7, .int .i64 (Int.tmod (IntKind.wrap .i64 n3) 10)]).bind fun x54 =>
 (asTuple (x54)).bind fun x55 =>
 (uncons x55).bind fun x56 =>
 (asRows (x56.1)).bind fun x57 =>
 (uncons x56.2).bind fun x58 =>
 (asCells (x58.1)).bind fun x59 =>
 (uncons x59).bind fun x60 =>
 (asInt .i64 (x60.1)).bind fun x61 =>
 (uncons x60.2).bind fun x62 =>
 (asInt .i64 (x62.1)).bind fun x63 =>
 (isNil x62.2).bind fun x64 =>
 (isNil x58.2).bind fun x65 =>
 (C.p (.func 16) [.slice .any x5, .slice .any x7, .int .i64 (Int.tmod (IntKind.wrap .i64 n3) 10)]).bind fun x66 =>
 (asTuple (x66)).bind fun x67 =>
 (uncons x67).bind fun x68 =>
 (asRows (x68.1)).bind fun x69 =>
 (uncons x68.2).bind fun x70 =>
 (asCells (x70.1)).bind fun x71 =>
 (uncons x71).bind fun x72 =>
 (asInt .i64 (x72.1)).bind fun x73 =>
 (uncons x72.2).bind fun x74 =>
 (asInt .i64 (x74.1)).bind fun x75 =>
 (isNil x74.2).bind fun x76 =>
 (isNil x70.2).bind fun x77 =>
 (C.p (.func 17) [.slice .any x5, .int .i64 (Int.tmod n2 2147483648)]).bind fun x78 =>
 (asTuple (x78)).bind fun x79 =>
 (uncons x79).bind fun x80 =>
 (asRows (x80.1)).bind fun x81 =>
 (uncons x80.2).bind fun x82 =>
 (asCells (x82.1)).bind fun x83 =>
 (uncons x83).bind fun x84 =>
 (asInt .i64 (x84.1)).bind fun x85 =>
 (uncons x84.2).bind fun x86 =>
 (asInt .i64 (x86.1)).bind fun x87 =>
 (isNil x86.2).bind fun x88 =>
 (isNil x82.2).bind fun x89 =>
 (C.p (.func 18) [.slice .any x5, .int .i64 (Int.tmod n2 2147483648)]).bind fun x90 =>
 (asTuple (x90)).bind fun x91 =>
 (uncons x91).bind fun x92 =>
 (asRows (x92.1)).bind fun x93 =>
 (uncons x92.2).bind fun x94 =>
 (asCells (x94.1)).bind fun x95 =>
 (uncons x95).bind fun x96 =>
 (asInt .i64 (x96.1)).bind fun x97 =>
 (uncons x96.2).bind fun x98 =>
 (asInt .i64 (x98.1)).bind fun x99 =>
 (isNil x98.2).bind fun x100 =>
 (isNil x94.2).bind fun x101 =>
 (C.p (.func 19) [.slice .any x5, .int .i64 (Int.tmod (IntKind.wrap .i64 n3) 10)]).bind fun x102 =>
 (asTuple (x102)).bind fun x103 =>
 (uncons x103).bind fun x104 =>
 (asRows (x104.1)).bind fun x105 =>
 (uncons x104.2).bind fun x106 =>
 (asCells (x106.1)).bind fun x107 =>
 (uncons x107).bind fun x108 =>
 (asInt .i64 (x108.1)).bind fun x109 =>
 (uncons x108.2).bind fun x110 =>
 (asInt .i64 (x110.1)).bind fun x111 =>
 (isNil x110.2).bind fun x112 =>
 (isNil x106.2).bind fun x113 =>
 (C.p (.func 20) [.slice .any x5, .int .i64 (Int.tmod (IntKind.wrap .i64 n3) 10)]).bind fun x114 =>
 (asTuple (x114)).bind fun x115 =>
 (uncons x115).bind fun x116 =>
 (asRows (x116.1)).bind fun x117 =>
 (uncons x116.2).bind fun x118 =>
 (asCells (x118.1)).bind fun x119 =>
 (uncons x119).bind fun x120 =>
 (asInt .i64 (x120.1)).bind fun x121 =>
 (uncons x120.2).bind fun x122 =>
 (asInt .i64 (x122.1)).bind fun x123 =>
 (isNil x122.2).bind fun x124 =>
 (isNil x118.2).bind fun x125 =>
 (C.p (.func 21) [.slice .any x33, .slice .any x45]).bind fun x126 =>
 (asBool (x126)).bind fun x127 =>
 cond (!x127) (
 some (.bool false, [])) (
 (C.p (.func 22) [.agg [.int .i64 x37, .int .i64 x39], .agg [.int .i64 x49, .int .i64 x51]]).bind fun x128 =>
 (asBool (x128)).bind fun x129 =>
 cond (!x129) (
 some (.bool false, [])) (
 (C.p (.func 21) [.slice .any x57, .slice .any x69]).bind fun x130 =>
 (asBool (x130)).bind fun x131 =>
 cond (!x131) (
 some (.bool false, [])) (
 (C.p (.func 22) [.agg [.int .i64 x61, .int .i64 x63], .agg [.int .i64 x73, .int .i64 x75]]).bind fun x132 =>
 (asBool (x132)).bind fun x133 =>
 cond (!x133) (
 some (.bool false, [])) (
 (C.p (.func 21) [.slice .any x81, .slice .any x93]).bind fun x134 =>
 (asBool (x134)).bind fun x135 =>
 cond (!x135) (
 some (.bool false, [])) (
 (C.p (.func 22) [.agg [.int .i64 x85, .int .i64 x87], .agg [.int .i64 x97, .int .i64 x99]]).bind fun x136 =>
 (asBool (x136)).bind fun x137 =>
 cond (!x137) (
 some (.bool false, [])) (
 (C.p (.func 21) [.slice .any x105, .slice .any x117]).bind fun x138 =>
 (asBool (x138)).bind fun x139 =>
 cond (!x139) (
 some (.bool false, [])) (
 (C.p (.func 22) [.agg [.int .i64 x109, .int .i64 x111], .agg [.int .i64 x121, .int .i64 x123]]).bind fun x140 =>
 (asBool (x140)).bind fun x141 =>
 cond (!x141) (
 some (.bool false, [])) (
 (C.p (.func 23) [.slice .any x5]).bind fun x142 =>
 (asCells (x142)).bind fun x143 =>
 (uncons x143).bind fun x144 =>
 (asInt .i64 (x144.1)).bind fun x145 =>
 (uncons x144.2).bind fun x146 =>
 (asInt .i64 (x146.1)).bind fun x147 =>
 (isNil x146.2).bind fun x148 =>
 (C.p (.func 24) [.slice .any x5]).bind fun x149 =>
 (asCells (x149)).bind fun x150 =>
 (uncons x150).bind fun x151 =>
 (asInt .i64 (x151.1)).bind fun x152 =>
 (uncons x151.2).bind fun x153 =>
 (asInt .i64 (x153.1)).bind fun x154 =>
 (isNil x153.2).bind fun x155 =>
 (C.p (.func 22) [.agg [.int .i64 x145, .int .i64 x147], .agg [.int .i64 x152, .int .i64 x154]]).bind fun x156 =>
 (asBool (x156)).bind fun x157 =>
 cond x157 (
 (C.p (.func 25) [.slice .any x5, .slice .any [[.int .i64 x12, .int .i64 x14], [.int .i64 x19, .int .i64 x21], [.int .i64 x26, .int .i64 x28]]]).bind fun x158 =>
 (asCells (x158)).bind fun x159 =>
 (uncons x159).bind fun x160 =>
 (asInt .i64 (x160.1)).bind fun x161 =>
 (uncons x160.2).bind fun x162 =>
 (asInt .i64 (x162.1)).bind fun x163 =>
 (isNil x162.2).bind fun x164 =>
 (C.p (.func 26) [.slice .any x5, .slice .any [[.int .i64 x12, .int .i64 x14], [.int .i64 x19, .int .i64 x21], [.int .i64 x26, .int .i64 x28]]]).bind fun x165 =>
 (asCells (x165)).bind fun x166 =>
 (uncons x166).bind fun x167 =>
 (asInt .i64 (x167.1)).bind fun x168 =>
 (uncons x167.2).bind fun x169 =>
 (asInt .i64 (x169.1)).bind fun x170 =>
 (isNil x169.2).bind fun x171 =>
 (C.p (.func 22) [.agg [.int .i64 x161, .int .i64 x163], .agg [.int .i64 x168, .int .i64 x170]]).bind fun x172 =>
 (asBool (x172)).bind fun x173 =>
 cond x173 (
 (C.p (.func 27) [.slice .any x5]).bind fun x174 =>
 (asInt .i64 (x174)).bind fun x175 =>
 (C.p (.func 28) [.slice .any x5]).bind fun x176 =>
 (asInt .i64 (x176)).bind fun x177 =>
 cond (x175 == x177) (
 (C.p (.func 29) [.int .i64 (Int.tmod n2 2147483648)]).bind fun x178 =>
 (asRows (x178)).bind fun x179 =>
 (C.p (.func 30) [.int .i64 (Int.tmod n2 2147483648)]).bind fun x180 =>
 (asRows (x180)).bind fun x181 =>
 (C.p (.func 21) [.slice .any x179, .slice .any x181]).bind fun x182 =>
 (asBool (x182)).bind fun x183 =>
 cond x183 (
 (C.p (.func 31) [.int .i64 (Int.tmod (IntKind.wrap .i64 n3) 10)]).bind fun x184 =>
 (asRows (x184)).bind fun x185 =>
 (C.p (.func 32) [.int .i64 (Int.tmod (IntKind.wrap .i64 n3) 10)]).bind fun x186 =>
 (asRows (x186)).bind fun x187 =>
 (C.p (.func 21) [.slice .any x185, .slice .any x187]).bind fun x188 =>
 (asBool (x188)).bind fun x189 =>
 cond x189 (
 some (.bool x1, [])) (
 some (.bool false, []))) (
 some (.bool false, []))) (
 some (.bool false, []))) (
 some (.bool false, []))) (
 some (.bool false, []))))))))))) := by kernel_rfl
end Go.Ab
