/- What one call of each function does, written out: by evaluation; conditions: none. -/
import Derived.KernelRfl
import Derived.Test.YtbfecmgiffkooaaT20
namespace Go.Ab
set_option linter.unusedVariables false
set_option linter.unusedSimpArgs false
set_option linter.unusedVariables false
set_option linter.unusedSimpArgs false
set_option linter.unusedVariables false
set_option maxHeartbeats 2000000
theorem e66_2_v1 (C : CallT) (r0 : List (List V)) (r1 : List (List V)) (n2 : Int) (n3 : Int) (n4 : Int) (r5 : List (List V)) (r6 : List (List V)) (n7 : Int) (n8 : Int) (l9 : LoopA) (r10 : List (List V)) (r11 : List (List V)) (l12 : LoopA) (n13 : Int) (r14 : List (List V)) (n15 : Int) (n16 : Int) : roundK Go.Ab.G20 Go.Ab.L20 C 66 none 2 ⟨(sp 0 63 [(0, .fn (.yield 11) [] []), (2, .ptr 10 0), (4, .int .i64 n13), (9, .slice .any r14), (10, .int .i64 n15), (11, .int .i64 n16)]), [.cells [.slice .any r0], .cells [.slice .any r1], .cells [.int .i64 n2, .int .i64 n3], .cells [.int .i64 n4], .cells [.slice .any r5], .cells [.slice .any r6], .cells [.int .i64 n7, .int .i64 n8], .loop l9, .cells [.fn (.yield 7) [] []], .cells [.slice .any r10], .cells [.slice .any r11], .loop l12]⟩ =
  cond (decide (n16 < n15)) (
   (getRow r14 n16 6).bind fun x0 =>
   (uncons x0).bind fun x1 =>
   (asInt .i64 (x1.1)).bind fun x2 =>
   (uncons x1.2).bind fun x3 =>
   (asInt .i64 (x3.1)).bind fun x4 =>
   (uncons x3.2).bind fun x5 =>
   (asRows (x5.1)).bind fun x6 =>
   (uncons x5.2).bind fun x7 =>
   (asRows (x7.1)).bind fun x8 =>
   (uncons x7.2).bind fun x9 =>
   (asRows (x9.1)).bind fun x10 =>
   (uncons x9.2).bind fun x11 =>
   (asRows (x11.1)).bind fun x12 =>
   (isNil x11.2).bind fun x13 =>
   (C.w (roundK Go.Ab.G20 Go.Ab.L20 C 66 none 4) ⟨(sp 0 63 [(0, .fn (.yield 11) [] []), (2, .ptr 10 0), (4, .int .i64 n13), (6, .box [.int .i64 x2, .int .i64 x4, .slice .any x6, .slice .any x8, .slice .any x10, .slice .any x12]), (9, .slice .any r14), (10, .int .i64 n15), (11, .int .i64 n16)]), [.cells [.slice .any r0], .cells [.slice .any r1], .cells [.int .i64 n2, .int .i64 n3], .cells [.int .i64 n4], .cells [.slice .any r5], .cells [.slice .any r6], .cells [.int .i64 n7, .int .i64 n8], .loop l9, .cells [.fn (.yield 7) [] []], .cells [.slice .any r10], .cells [.slice .any r11], .loop l12]⟩).bind fun x14 =>
   match x14.1 with
   | .normal =>
     none
   | .exit x16 =>
     cond (Nat.beq x16 2) (
      (asFn (.yield 11) ((nth x14.2.t 0))).bind fun x17 =>
      (isNil x17.1).bind fun x18 =>
      (isNil x17.2).bind fun x19 =>
      (asPtr 10 0 ((nth x14.2.t 2))).bind fun x20 =>
      (asInt .i64 ((nth x14.2.t 4))).bind fun x21 =>
      (asBox ((nth x14.2.t 6))).bind fun x22 =>
      (uncons x22).bind fun x23 =>
      (asInt .i64 (x23.1)).bind fun x24 =>
      (uncons x23.2).bind fun x25 =>
      (asInt .i64 (x25.1)).bind fun x26 =>
      (uncons x25.2).bind fun x27 =>
      (asRows (x27.1)).bind fun x28 =>
      (uncons x27.2).bind fun x29 =>
      (asRows (x29.1)).bind fun x30 =>
      (uncons x29.2).bind fun x31 =>
      (asRows (x31.1)).bind fun x32 =>
      (uncons x31.2).bind fun x33 =>
      (asRows (x33.1)).bind fun x34 =>
      (isNil x33.2).bind fun x35 =>
      (asRows ((nth x14.2.t 9))).bind fun x36 =>
      (asInt .i64 ((nth x14.2.t 10))).bind fun x37 =>
      (asInt .i64 ((nth x14.2.t 11))).bind fun x38 =>
      (unconsO x14.2.h).bind fun x39 =>
      (asObCells x39.1).bind fun x40 =>
      (uncons x40).bind fun x41 =>
      (asRows (x41.1)).bind fun x42 =>
      (isNil x41.2).bind fun x43 =>
      (unconsO x39.2).bind fun x44 =>
      (asObCells x44.1).bind fun x45 =>
      (uncons x45).bind fun x46 =>
      (asRows (x46.1)).bind fun x47 =>
      (isNil x46.2).bind fun x48 =>
      (unconsO x44.2).bind fun x49 =>
      (asObCells x49.1).bind fun x50 =>
      (uncons x50).bind fun x51 =>
      (asInt .i64 (x51.1)).bind fun x52 =>
      (uncons x51.2).bind fun x53 =>
      (asInt .i64 (x53.1)).bind fun x54 =>
      (isNil x53.2).bind fun x55 =>
      (unconsO x49.2).bind fun x56 =>
      (asObCells x56.1).bind fun x57 =>
      (uncons x57).bind fun x58 =>
      (asInt .i64 (x58.1)).bind fun x59 =>
      (isNil x58.2).bind fun x60 =>
      (unconsO x56.2).bind fun x61 =>
      (asObCells x61.1).bind fun x62 =>
      (uncons x62).bind fun x63 =>
      (asRows (x63.1)).bind fun x64 =>
      (isNil x63.2).bind fun x65 =>
      (unconsO x61.2).bind fun x66 =>
      (asObCells x66.1).bind fun x67 =>
      (uncons x67).bind fun x68 =>
      (asRows (x68.1)).bind fun x69 =>
      (isNil x68.2).bind fun x70 =>
      (unconsO x66.2).bind fun x71 =>
      (asObCells x71.1).bind fun x72 =>
      (uncons x72).bind fun x73 =>
      (asInt .i64 (x73.1)).bind fun x74 =>
      (uncons x73.2).bind fun x75 =>
      (asInt .i64 (x75.1)).bind fun x76 =>
      (isNil x75.2).bind fun x77 =>
      (unconsO x71.2).bind fun x78 =>
      (asLoop x78.1).bind fun x79 =>
      (unconsO x78.2).bind fun x80 =>
      (asObCells x80.1).bind fun x81 =>
      (uncons x81).bind fun x82 =>
      (asFn (.yield 7) (x82.1)).bind fun x83 =>
      (isNil x83.1).bind fun x84 =>
      (isNil x83.2).bind fun x85 =>
      (isNil x82.2).bind fun x86 =>
      (unconsO x80.2).bind fun x87 =>
      (asObCells x87.1).bind fun x88 =>
      (uncons x88).bind fun x89 =>
      (asRows (x89.1)).bind fun x90 =>
      (isNil x89.2).bind fun x91 =>
      (unconsO x87.2).bind fun x92 =>
      (asObCells x92.1).bind fun x93 =>
      (uncons x93).bind fun x94 =>
      (asRows (x94.1)).bind fun x95 =>
      (isNil x94.2).bind fun x96 =>
      (unconsO x92.2).bind fun x97 =>
      (asLoop x97.1).bind fun x98 =>
      cond (decide (0 ≤ x21)) (
       cond (decide (x21.toNat ≤ x95.length)) (
        cond (headIs 6 x95) (
         (C.w (roundK Go.Ab.G20 Go.Ab.L20 C 66 none 7) ⟨(sp 0 63 [(0, .fn (.yield 11) [] []), (2, .ptr 10 0), (4, .int .i64 x21), (6, .box [.int .i64 x24, .int .i64 x26, .slice .any x28, .slice .any x30, .slice .any x32, .slice .any x34]), (9, .slice .any x36), (10, .int .i64 x37), (11, .int .i64 x38), (33, .slice .any ((x95.take x95.length).drop x21.toNat)), (34, .int .i64 ((((x95.take x95.length).drop x21.toNat).length : Nat) : Int)), (35, .int .i64 0)]), [.cells [.slice .any x42], .cells [.slice .any x47], .cells [.int .i64 x52, .int .i64 x54], .cells [.int .i64 x59], .cells [.slice .any x64], .cells [.slice .any x69], .cells [.int .i64 x74, .int .i64 x76], .loop x79, .cells [.fn (.yield 7) [] []], .cells [.slice .any x90], .cells [.slice .any x95], .loop x98]⟩).bind fun x99 =>
         match x99.1 with
         | .normal =>
           none
         | .exit x101 =>
           cond (Nat.beq x101 4) (
            (asFn (.yield 11) ((nth x99.2.t 0))).bind fun x187 =>
            (isNil x187.1).bind fun x188 =>
            (isNil x187.2).bind fun x189 =>
            (asPtr 10 0 ((nth x99.2.t 2))).bind fun x190 =>
            (asInt .i64 ((nth x99.2.t 4))).bind fun x191 =>
            (asBox ((nth x99.2.t 6))).bind fun x192 =>
            (uncons x192).bind fun x193 =>
            (asInt .i64 (x193.1)).bind fun x194 =>
            (uncons x193.2).bind fun x195 =>
            (asInt .i64 (x195.1)).bind fun x196 =>
            (uncons x195.2).bind fun x197 =>
            (asRows (x197.1)).bind fun x198 =>
            (uncons x197.2).bind fun x199 =>
            (asRows (x199.1)).bind fun x200 =>
            (uncons x199.2).bind fun x201 =>
            (asRows (x201.1)).bind fun x202 =>
            (uncons x201.2).bind fun x203 =>
            (asRows (x203.1)).bind fun x204 =>
            (isNil x203.2).bind fun x205 =>
            (asRows ((nth x99.2.t 9))).bind fun x206 =>
            (asInt .i64 ((nth x99.2.t 10))).bind fun x207 =>
            (asInt .i64 ((nth x99.2.t 11))).bind fun x208 =>
            (asRows ((nth x99.2.t 33))).bind fun x209 =>
            (asInt .i64 ((nth x99.2.t 34))).bind fun x210 =>
            (asInt .i64 ((nth x99.2.t 35))).bind fun x211 =>
            (unconsO x99.2.h).bind fun x212 =>
            (asObCells x212.1).bind fun x213 =>
            (uncons x213).bind fun x214 =>
            (asRows (x214.1)).bind fun x215 =>
            (isNil x214.2).bind fun x216 =>
            (unconsO x212.2).bind fun x217 =>
            (asObCells x217.1).bind fun x218 =>
            (uncons x218).bind fun x219 =>
            (asRows (x219.1)).bind fun x220 =>
            (isNil x219.2).bind fun x221 =>
            (unconsO x217.2).bind fun x222 =>
            (asObCells x222.1).bind fun x223 =>
            (uncons x223).bind fun x224 =>
            (asInt .i64 (x224.1)).bind fun x225 =>
            (uncons x224.2).bind fun x226 =>
            (asInt .i64 (x226.1)).bind fun x227 =>
            (isNil x226.2).bind fun x228 =>
            (unconsO x222.2).bind fun x229 =>
            (asObCells x229.1).bind fun x230 =>
            (uncons x230).bind fun x231 =>
            (asInt .i64 (x231.1)).bind fun x232 =>
            (isNil x231.2).bind fun x233 =>
            (unconsO x229.2).bind fun x234 =>
            (asObCells x234.1).bind fun x235 =>
            (uncons x235).bind fun x236 =>
            (asRows (x236.1)).bind fun x237 =>
            (isNil x236.2).bind fun x238 =>
            (unconsO x234.2).bind fun x239 =>
            (asObCells x239.1).bind fun x240 =>
            (uncons x240).bind fun x241 =>
            (asRows (x241.1)).bind fun x242 =>
            (isNil x241.2).bind fun x243 =>
            (unconsO x239.2).bind fun x244 =>
            (asObCells x244.1).bind fun x245 =>
            (uncons x245).bind fun x246 =>
            (asInt .i64 (x246.1)).bind fun x247 =>
            (uncons x246.2).bind fun x248 =>
            (asInt .i64 (x248.1)).bind fun x249 =>
            (isNil x248.2).bind fun x250 =>
            (unconsO x244.2).bind fun x251 =>
            (asLoop x251.1).bind fun x252 =>
            (unconsO x251.2).bind fun x253 =>
            (asObCells x253.1).bind fun x254 =>
            (uncons x254).bind fun x255 =>
            (asFn (.yield 7) (x255.1)).bind fun x256 =>
            (isNil x256.1).bind fun x257 =>
            (isNil x256.2).bind fun x258 =>
            (isNil x255.2).bind fun x259 =>
            (unconsO x253.2).bind fun x260 =>
            (asObCells x260.1).bind fun x261 =>
            (uncons x261).bind fun x262 =>
            (asRows (x262.1)).bind fun x263 =>
            (isNil x262.2).bind fun x264 =>
            (unconsO x260.2).bind fun x265 =>
            (asObCells x265.1).bind fun x266 =>
            (uncons x266).bind fun x267 =>
            (asRows (x267.1)).bind fun x268 =>
            (isNil x267.2).bind fun x269 =>
            (unconsO x265.2).bind fun x270 =>
            (asLoop x270.1).bind fun x271 =>
            some (.normal, ⟨(sp 0 63 [(0, .fn (.yield 11) [] []), (2, .ptr 10 0), (4, .int .i64 x191), (9, .slice .any x206), (10, .int .i64 x207), (11, .int .i64 (Go.IntKind.wrap .i64 (x208 + 1)))]), [.cells [.slice .any x215], .cells [.slice .any x220], .cells [.int .i64 x225, .int .i64 x227], .cells [.int .i64 x232], .cells [.slice .any x237], .cells [.slice .any x242], .cells [.int .i64 x247, .int .i64 x249], .loop x252, .cells [.fn (.yield 7) [] []], .cells [.slice .any x263], .cells [.slice .any x268], .loop x271]⟩)) (
            cond (Nat.beq x101 1) (
             (asFn (.yield 11) ((nth x99.2.t 0))).bind fun x102 =>
             (isNil x102.1).bind fun x103 =>
             (isNil x102.2).bind fun x104 =>
             (asPtr 10 0 ((nth x99.2.t 2))).bind fun x105 =>
             (asInt .i64 ((nth x99.2.t 4))).bind fun x106 =>
             (asBox ((nth x99.2.t 6))).bind fun x107 =>
             (uncons x107).bind fun x108 =>
             (asInt .i64 (x108.1)).bind fun x109 =>
             (uncons x108.2).bind fun x110 =>
             (asInt .i64 (x110.1)).bind fun x111 =>
             (uncons x110.2).bind fun x112 =>
             (asRows (x112.1)).bind fun x113 =>
             (uncons x112.2).bind fun x114 =>
             (asRows (x114.1)).bind fun x115 =>
             (uncons x114.2).bind fun x116 =>
             (asRows (x116.1)).bind fun x117 =>
             (uncons x116.2).bind fun x118 =>
             (asRows (x118.1)).bind fun x119 =>
             (isNil x118.2).bind fun x120 =>
             (asRows ((nth x99.2.t 9))).bind fun x121 =>
             (asInt .i64 ((nth x99.2.t 10))).bind fun x122 =>
             (asInt .i64 ((nth x99.2.t 11))).bind fun x123 =>
             (asRows ((nth x99.2.t 33))).bind fun x124 =>
             (asInt .i64 ((nth x99.2.t 34))).bind fun x125 =>
             (asInt .i64 ((nth x99.2.t 35))).bind fun x126 =>
             (unconsO x99.2.h).bind fun x127 =>
             (asObCells x127.1).bind fun x128 =>
             (uncons x128).bind fun x129 =>
             (asRows (x129.1)).bind fun x130 =>
             (isNil x129.2).bind fun x131 =>
             (unconsO x127.2).bind fun x132 =>
             (asObCells x132.1).bind fun x133 =>
             (uncons x133).bind fun x134 =>
             (asRows (x134.1)).bind fun x135 =>
             (isNil x134.2).bind fun x136 =>
             (unconsO x132.2).bind fun x137 =>
             (asObCells x137.1).bind fun x138 =>
             (uncons x138).bind fun x139 =>
             (asInt .i64 (x139.1)).bind fun x140 =>
             (uncons x139.2).bind fun x141 =>
             (asInt .i64 (x141.1)).bind fun x142 =>
             (isNil x141.2).bind fun x143 =>
             (unconsO x137.2).bind fun x144 =>
             (asObCells x144.1).bind fun x145 =>
             (uncons x145).bind fun x146 =>
             (asInt .i64 (x146.1)).bind fun x147 =>
             (isNil x146.2).bind fun x148 =>
             (unconsO x144.2).bind fun x149 =>
             (asObCells x149.1).bind fun x150 =>
             (uncons x150).bind fun x151 =>
             (asRows (x151.1)).bind fun x152 =>
             (isNil x151.2).bind fun x153 =>
             (unconsO x149.2).bind fun x154 =>
             (asObCells x154.1).bind fun x155 =>
             (uncons x155).bind fun x156 =>
             (asRows (x156.1)).bind fun x157 =>
             (isNil x156.2).bind fun x158 =>
             (unconsO x154.2).bind fun x159 =>
             (asObCells x159.1).bind fun x160 =>
             (uncons x160).bind fun x161 =>
             (asInt .i64 (x161.1)).bind fun x162 =>
             (uncons x161.2).bind fun x163 =>
             (asInt .i64 (x163.1)).bind fun x164 =>
             (isNil x163.2).bind fun x165 =>
             (unconsO x159.2).bind fun x166 =>
             (asLoop x166.1).bind fun x167 =>
             (unconsO x166.2).bind fun x168 =>
             (asObCells x168.1).bind fun x169 =>
             (uncons x169).bind fun x170 =>
             (asFn (.yield 7) (x170.1)).bind fun x171 =>
             (isNil x171.1).bind fun x172 =>
             (isNil x171.2).bind fun x173 =>
             (isNil x170.2).bind fun x174 =>
             (unconsO x168.2).bind fun x175 =>
             (asObCells x175.1).bind fun x176 =>
             (uncons x176).bind fun x177 =>
             (asRows (x177.1)).bind fun x178 =>
             (isNil x177.2).bind fun x179 =>
             (unconsO x175.2).bind fun x180 =>
             (asObCells x180.1).bind fun x181 =>
             (uncons x181).bind fun x182 =>
             (asRows (x182.1)).bind fun x183 =>
             (isNil x182.2).bind fun x184 =>
             (unconsO x180.2).bind fun x185 =>
             (asLoop x185.1).bind fun x186 =>
             some (.normal, ⟨(sp 0 63 [(0, .fn (.yield 11) [] []), (2, .ptr 10 0), (4, .int .i64 x106), (9, .slice .any x121), (10, .int .i64 x122), (11, .int .i64 (Go.IntKind.wrap .i64 (x123 + 1)))]), [.cells [.slice .any x130], .cells [.slice .any x135], .cells [.int .i64 x140, .int .i64 x142], .cells [.int .i64 x147], .cells [.slice .any x152], .cells [.slice .any x157], .cells [.int .i64 x162, .int .i64 x164], .loop x167, .cells [.fn (.yield 7) [] []], .cells [.slice .any x178], .cells [.slice .any x183], .loop x186]⟩)) (
             none))
         | .ret =>
           (asFn (.yield 11) ((nth x99.2.t 0))).bind fun x272 =>
           (isNil x272.1).bind fun x273 =>
           (isNil x272.2).bind fun x274 =>
           (asPtr 10 0 ((nth x99.2.t 2))).bind fun x275 =>
           (asInt .i64 ((nth x99.2.t 4))).bind fun x276 =>
           (asBox ((nth x99.2.t 6))).bind fun x277 =>
           (uncons x277).bind fun x278 =>
           (asInt .i64 (x278.1)).bind fun x279 =>
           (uncons x278.2).bind fun x280 =>
           (asInt .i64 (x280.1)).bind fun x281 =>
           (uncons x280.2).bind fun x282 =>
           (asRows (x282.1)).bind fun x283 =>
           (uncons x282.2).bind fun x284 =>
           (asRows (x284.1)).bind fun x285 =>
           (uncons x284.2).bind fun x286 =>
           (asRows (x286.1)).bind fun x287 =>
           (uncons x286.2).bind fun x288 =>
           (asRows (x288.1)).bind fun x289 =>
           (isNil x288.2).bind fun x290 =>
           (asRows ((nth x99.2.t 9))).bind fun x291 =>
           (asInt .i64 ((nth x99.2.t 10))).bind fun x292 =>
           (asInt .i64 ((nth x99.2.t 11))).bind fun x293 =>
           (asRows ((nth x99.2.t 33))).bind fun x294 =>
           (asInt .i64 ((nth x99.2.t 34))).bind fun x295 =>
           (asInt .i64 ((nth x99.2.t 35))).bind fun x296 =>
           (unconsO x99.2.h).bind fun x297 =>
           (asObCells x297.1).bind fun x298 =>
           (uncons x298).bind fun x299 =>
           (asRows (x299.1)).bind fun x300 =>
           (isNil x299.2).bind fun x301 =>
           (unconsO x297.2).bind fun x302 =>
           (asObCells x302.1).bind fun x303 =>
           (uncons x303).bind fun x304 =>
           (asRows (x304.1)).bind fun x305 =>
           (isNil x304.2).bind fun x306 =>
           (unconsO x302.2).bind fun x307 =>
           (asObCells x307.1).bind fun x308 =>
           (uncons x308).bind fun x309 =>
           (asInt .i64 (x309.1)).bind fun x310 =>
           (uncons x309.2).bind fun x311 =>
           (asInt .i64 (x311.1)).bind fun x312 =>
           (isNil x311.2).bind fun x313 =>
           (unconsO x307.2).bind fun x314 =>
           (asObCells x314.1).bind fun x315 =>
           (uncons x315).bind fun x316 =>
           (asInt .i64 (x316.1)).bind fun x317 =>
           (isNil x316.2).bind fun x318 =>
           (unconsO x314.2).bind fun x319 =>
           (asObCells x319.1).bind fun x320 =>
           (uncons x320).bind fun x321 =>
           (asRows (x321.1)).bind fun x322 =>
           (isNil x321.2).bind fun x323 =>
           (unconsO x319.2).bind fun x324 =>
           (asObCells x324.1).bind fun x325 =>
           (uncons x325).bind fun x326 =>
           (asRows (x326.1)).bind fun x327 =>
           (isNil x326.2).bind fun x328 =>
           (unconsO x324.2).bind fun x329 =>
           (asObCells x329.1).bind fun x330 =>
           (uncons x330).bind fun x331 =>
           (asInt .i64 (x331.1)).bind fun x332 =>
           (uncons x331.2).bind fun x333 =>
           (asInt .i64 (x333.1)).bind fun x334 =>
           (isNil x333.2).bind fun x335 =>
           (unconsO x329.2).bind fun x336 =>
           (asLoop x336.1).bind fun x337 =>
           (unconsO x336.2).bind fun x338 =>
           (asObCells x338.1).bind fun x339 =>
           (uncons x339).bind fun x340 =>
           (asFn (.yield 7) (x340.1)).bind fun x341 =>
           (isNil x341.1).bind fun x342 =>
           (isNil x341.2).bind fun x343 =>
           (isNil x340.2).bind fun x344 =>
           (unconsO x338.2).bind fun x345 =>
           (asObCells x345.1).bind fun x346 =>
           (uncons x346).bind fun x347 =>
           (asRows (x347.1)).bind fun x348 =>
           (isNil x347.2).bind fun x349 =>
           (unconsO x345.2).bind fun x350 =>
           (asObCells x350.1).bind fun x351 =>
           (uncons x351).bind fun x352 =>
           (asRows (x352.1)).bind fun x353 =>
           (isNil x352.2).bind fun x354 =>
           (unconsO x350.2).bind fun x355 =>
           (asLoop x355.1).bind fun x356 =>
           some (.ret, ⟨(sp 0 63 [(0, .fn (.yield 11) [] []), (2, .ptr 10 0), (4, .int .i64 x276), (9, .slice .any x291), (10, .int .i64 x292), (11, .int .i64 x293)]), [.cells [.slice .any x300], .cells [.slice .any x305], .cells [.int .i64 x310, .int .i64 x312], .cells [.int .i64 x317], .cells [.slice .any x322], .cells [.slice .any x327], .cells [.int .i64 x332, .int .i64 x334], .loop x337, .cells [.fn (.yield 7) [] []], .cells [.slice .any x348], .cells [.slice .any x353], .loop x356]⟩)) (
         none)) (
        none)) (
       none)) (
      none)
   | .ret =>
     none) (
   some ((.exit 0), ⟨(sp 0 63 [(0, .fn (.yield 11) [] []), (2, .ptr 10 0), (4, .int .i64 n13), (9, .slice .any r14), (10, .int .i64 n15), (11, .int .i64 n16)]), [.cells [.slice .any r0], .cells [.slice .any r1], .cells [.int .i64 n2, .int .i64 n3], .cells [.int .i64 n4], .cells [.slice .any r5], .cells [.slice .any r6], .cells [.int .i64 n7, .int .i64 n8], .loop l9, .cells [.fn (.yield 7) [] []], .cells [.slice .any r10], .cells [.slice .any r11], .loop l12]⟩)) := by kernel_rfl

theorem s66_v1 (C : CallT) (r0 : List (List V)) (r1 : List (List V)) (n2 : Int) (n3 : Int) (n4 : Int) (r5 : List (List V)) (r6 : List (List V)) (n7 : Int) (n8 : Int) (l9 : LoopA) (r10 : List (List V)) (r11 : List (List V)) (l12 : LoopA) : run1 Go.Ab.G20 Go.Ab.L20 C (.func 66) [.fn (.yield 11) [] [], .ptr 9 0, .ptr 10 0] [.cells [.slice .any r0], .cells [.slice .any r1], .cells [.int .i64 n2, .int .i64 n3], .cells [.int .i64 n4], .cells [.slice .any r5], .cells [.slice .any r6], .cells [.int .i64 n7, .int .i64 n8], .loop l9, .cells [.fn (.yield 7) [] []], .cells [.slice .any r10], .cells [.slice .any r11], .loop l12] =
  (C.w (roundK Go.Ab.G20 Go.Ab.L20 C 66 none 2) ⟨(sp 0 63 [(0, .fn (.yield 11) [] []), (2, .ptr 10 0), (4, .int .i64 0), (9, .slice .any r10), (10, .int .i64 ((r10.length : Nat) : Int)), (11, .int .i64 0)]), [.cells [.slice .any r0], .cells [.slice .any r1], .cells [.int .i64 n2, .int .i64 n3], .cells [.int .i64 n4], .cells [.slice .any r5], .cells [.slice .any r6], .cells [.int .i64 n7, .int .i64 n8], .loop l9, .cells [.fn (.yield 7) [] []], .cells [.slice .any r10], .cells [.slice .any r11], .loop l12]⟩).bind fun x0 =>
  match x0.1 with
  | .normal =>
    none
  | .exit x2 =>
    cond (Nat.beq x2 0) (
     (asFn (.yield 11) ((nth x0.2.t 0))).bind fun x3 =>
     (isNil x3.1).bind fun x4 =>
     (isNil x3.2).bind fun x5 =>
     (asPtr 10 0 ((nth x0.2.t 2))).bind fun x6 =>
     (asInt .i64 ((nth x0.2.t 4))).bind fun x7 =>
     (asRows ((nth x0.2.t 9))).bind fun x8 =>
     (asInt .i64 ((nth x0.2.t 10))).bind fun x9 =>
     (asInt .i64 ((nth x0.2.t 11))).bind fun x10 =>
     (unconsO x0.2.h).bind fun x11 =>
     (asObCells x11.1).bind fun x12 =>
     (uncons x12).bind fun x13 =>
     (asRows (x13.1)).bind fun x14 =>
     (isNil x13.2).bind fun x15 =>
     (unconsO x11.2).bind fun x16 =>
     (asObCells x16.1).bind fun x17 =>
     (uncons x17).bind fun x18 =>
     (asRows (x18.1)).bind fun x19 =>
     (isNil x18.2).bind fun x20 =>
     (unconsO x16.2).bind fun x21 =>
     (asObCells x21.1).bind fun x22 =>
     (uncons x22).bind fun x23 =>
     (asInt .i64 (x23.1)).bind fun x24 =>
     (uncons x23.2).bind fun x25 =>
     (asInt .i64 (x25.1)).bind fun x26 =>
     (isNil x25.2).bind fun x27 =>
     (unconsO x21.2).bind fun x28 =>
     (asObCells x28.1).bind fun x29 =>
     (uncons x29).bind fun x30 =>
     (asInt .i64 (x30.1)).bind fun x31 =>
     (isNil x30.2).bind fun x32 =>
     (unconsO x28.2).bind fun x33 =>
     (asObCells x33.1).bind fun x34 =>
     (uncons x34).bind fun x35 =>
     (asRows (x35.1)).bind fun x36 =>
     (isNil x35.2).bind fun x37 =>
     (unconsO x33.2).bind fun x38 =>
     (asObCells x38.1).bind fun x39 =>
     (uncons x39).bind fun x40 =>
     (asRows (x40.1)).bind fun x41 =>
     (isNil x40.2).bind fun x42 =>
     (unconsO x38.2).bind fun x43 =>
     (asObCells x43.1).bind fun x44 =>
     (uncons x44).bind fun x45 =>
     (asInt .i64 (x45.1)).bind fun x46 =>
     (uncons x45.2).bind fun x47 =>
     (asInt .i64 (x47.1)).bind fun x48 =>
     (isNil x47.2).bind fun x49 =>
     (unconsO x43.2).bind fun x50 =>
     (asLoop x50.1).bind fun x51 =>
     (unconsO x50.2).bind fun x52 =>
     (asObCells x52.1).bind fun x53 =>
     (uncons x53).bind fun x54 =>
     (asFn (.yield 7) (x54.1)).bind fun x55 =>
     (isNil x55.1).bind fun x56 =>
     (isNil x55.2).bind fun x57 =>
     (isNil x54.2).bind fun x58 =>
     (unconsO x52.2).bind fun x59 =>
     (asObCells x59.1).bind fun x60 =>
     (uncons x60).bind fun x61 =>
     (asRows (x61.1)).bind fun x62 =>
     (isNil x61.2).bind fun x63 =>
     (unconsO x59.2).bind fun x64 =>
     (asObCells x64.1).bind fun x65 =>
     (uncons x65).bind fun x66 =>
     (asRows (x66.1)).bind fun x67 =>
     (isNil x66.2).bind fun x68 =>
     (unconsO x64.2).bind fun x69 =>
     (asLoop x69.1).bind fun x70 =>
     some (.tuple [], [.cells [.slice .any x14], .cells [.slice .any x19], .cells [.int .i64 x24, .int .i64 x26], .cells [.int .i64 x31], .cells [.slice .any x36], .cells [.slice .any x41], .cells [.int .i64 x46, .int .i64 x48], .loop x51, .cells [.fn (.yield 7) [] []], .cells [.slice .any x62], .cells [.slice .any x67], .loop x70])) (
     none)
  | .ret =>
    (asFn (.yield 11) ((nth x0.2.t 0))).bind fun x71 =>
    (isNil x71.1).bind fun x72 =>
    (isNil x71.2).bind fun x73 =>
    (asPtr 10 0 ((nth x0.2.t 2))).bind fun x74 =>
    (asInt .i64 ((nth x0.2.t 4))).bind fun x75 =>
    (asRows ((nth x0.2.t 9))).bind fun x76 =>
    (asInt .i64 ((nth x0.2.t 10))).bind fun x77 =>
    (asInt .i64 ((nth x0.2.t 11))).bind fun x78 =>
    (unconsO x0.2.h).bind fun x79 =>
    (asObCells x79.1).bind fun x80 =>
    (uncons x80).bind fun x81 =>
    (asRows (x81.1)).bind fun x82 =>
    (isNil x81.2).bind fun x83 =>
    (unconsO x79.2).bind fun x84 =>
    (asObCells x84.1).bind fun x85 =>
    (uncons x85).bind fun x86 =>
    (asRows (x86.1)).bind fun x87 =>
    (isNil x86.2).bind fun x88 =>
    (unconsO x84.2).bind fun x89 =>
    (asObCells x89.1).bind fun x90 =>
    (uncons x90).bind fun x91 =>
    (asInt .i64 (x91.1)).bind fun x92 =>
    (uncons x91.2).bind fun x93 =>
    (asInt .i64 (x93.1)).bind fun x94 =>
    (isNil x93.2).bind fun x95 =>
    (unconsO x89.2).bind fun x96 =>
    (asObCells x96.1).bind fun x97 =>
    (uncons x97).bind fun x98 =>
    (asInt .i64 (x98.1)).bind fun x99 =>
    (isNil x98.2).bind fun x100 =>
    (unconsO x96.2).bind fun x101 =>
    (asObCells x101.1).bind fun x102 =>
    (uncons x102).bind fun x103 =>
    (asRows (x103.1)).bind fun x104 =>
    (isNil x103.2).bind fun x105 =>
    (unconsO x101.2).bind fun x106 =>
    (asObCells x106.1).bind fun x107 =>
    (uncons x107).bind fun x108 =>
    (asRows (x108.1)).bind fun x109 =>
    (isNil x108.2).bind fun x110 =>
    (unconsO x106.2).bind fun x111 =>
    (asObCells x111.1).bind fun x112 =>
    (uncons x112).bind fun x113 =>
    (asInt .i64 (x113.1)).bind fun x114 =>
    (uncons x113.2).bind fun x115 =>
    (asInt .i64 (x115.1)).bind fun x116 =>
    (isNil x115.2).bind fun x117 =>
    (unconsO x111.2).bind fun x118 =>
    (asLoop x118.1).bind fun x119 =>
    (unconsO x118.2).bind fun x120 =>
    (asObCells x120.1).bind fun x121 =>
    (uncons x121).bind fun x122 =>
    (asFn (.yield 7) (x122.1)).bind fun x123 =>
    (isNil x123.1).bind fun x124 =>
    (isNil x123.2).bind fun x125 =>
    (isNil x122.2).bind fun x126 =>
    (unconsO x120.2).bind fun x127 =>
    (asObCells x127.1).bind fun x128 =>
    (uncons x128).bind fun x129 =>
    (asRows (x129.1)).bind fun x130 =>
    (isNil x129.2).bind fun x131 =>
    (unconsO x127.2).bind fun x132 =>
    (asObCells x132.1).bind fun x133 =>
    (uncons x133).bind fun x134 =>
    (asRows (x134.1)).bind fun x135 =>
    (isNil x134.2).bind fun x136 =>
    (unconsO x132.2).bind fun x137 =>
    (asLoop x137.1).bind fun x138 =>
    some (.tuple [], [.cells [.slice .any x82], .cells [.slice .any x87], .cells [.int .i64 x92, .int .i64 x94], .cells [.int .i64 x99], .cells [.slice .any x104], .cells [.slice .any x109], .cells [.int .i64 x114, .int .i64 x116], .loop x119, .cells [.fn (.yield 7) [] []], .cells [.slice .any x130], .cells [.slice .any x135], .loop x138]) := by kernel_rfl

theorem s40_v1 (C : CallT) (r0 : List (List V)) (r1 : List (List V)) (n2 : Int) (n3 : Int) (n4 : Int) (r5 : List (List V)) (r6 : List (List V)) (n7 : Int) (n8 : Int) (l9 : LoopA) (r10 : List (List V)) (r11 : List (List V)) : run1 Go.Ab.G20 Go.Ab.L20 C (.func 40) [.slice .any r10, .slice .any r11] [.cells [.slice .any r0], .cells [.slice .any r1], .cells [.int .i64 n2, .int .i64 n3], .cells [.int .i64 n4], .cells [.slice .any r5], .cells [.slice .any r6], .cells [.int .i64 n7, .int .i64 n8], .loop l9, .cells [.fn (.yield 7) [] []]] =
  some (.fn (.func 66) [] [.ptr 9 0, .ptr 10 0], [.cells [.slice .any r0], .cells [.slice .any r1], .cells [.int .i64 n2, .int .i64 n3], .cells [.int .i64 n4], .cells [.slice .any r5], .cells [.slice .any r6], .cells [.int .i64 n7, .int .i64 n8], .loop l9, .cells [.fn (.yield 7) [] []], .cells [.slice .any r10], .cells [.slice .any r11]]) := by kernel_rfl

theorem s73 (C : CallT) (r0 : List (List V)) (r1 : List (List V)) (n2 : Int) (n3 : Int) (n4 : Int) (r5 : List (List V)) (r6 : List (List V)) (n7 : Int) (n8 : Int) (l9 : LoopA) : run1 Go.Ab.G20 Go.Ab.L20 C (.func 73) [.fn (.yield 7) [] [], .ptr 4 0, .ptr 5 0, .ptr 6 0] [.cells [.slice .any r0], .cells [.slice .any r1], .cells [.int .i64 n2, .int .i64 n3], .cells [.int .i64 n4], .cells [.slice .any r5], .cells [.slice .any r6], .cells [.int .i64 n7, .int .i64 n8], .loop l9] =
  (C.s (.func 40) [.slice .any r5, .slice .any r6] [.cells [.slice .any r0], .cells [.slice .any r1], .cells [.int .i64 n2, .int .i64 n3], .cells [.int .i64 n4], .cells [.slice .any r5], .cells [.slice .any r6], .cells [.int .i64 n7, .int .i64 n8], .loop l9, .cells [.fn (.yield 7) [] []]]).bind fun x0 =>
  (asFn (.func 66) (x0.1)).bind fun x1 =>
  (isNil x1.1).bind fun x2 =>
  (uncons x1.2).bind fun x3 =>
  (asPtr 9 0 (x3.1)).bind fun x4 =>
  (uncons x3.2).bind fun x5 =>
  (asPtr 10 0 (x5.1)).bind fun x6 =>
  (isNil x5.2).bind fun x7 =>
  (unconsO x0.2).bind fun x8 =>
  (asObCells x8.1).bind fun x9 =>
  (uncons x9).bind fun x10 =>
  (asRows (x10.1)).bind fun x11 =>
  (isNil x10.2).bind fun x12 =>
  (unconsO x8.2).bind fun x13 =>
  (asObCells x13.1).bind fun x14 =>
  (uncons x14).bind fun x15 =>
  (asRows (x15.1)).bind fun x16 =>
  (isNil x15.2).bind fun x17 =>
  (unconsO x13.2).bind fun x18 =>
  (asObCells x18.1).bind fun x19 =>
  (uncons x19).bind fun x20 =>
  (asInt .i64 (x20.1)).bind fun x21 =>
  (uncons x20.2).bind fun x22 =>
  (asInt .i64 (x22.1)).bind fun x23 =>
  (isNil x22.2).bind fun x24 =>
  (unconsO x18.2).bind fun x25 =>
  (asObCells x25.1).bind fun x26 =>
  (uncons x26).bind fun x27 =>
  (asInt .i64 (x27.1)).bind fun x28 =>
  (isNil x27.2).bind fun x29 =>
  (unconsO x25.2).bind fun x30 =>
  (asObCells x30.1).bind fun x31 =>
  (uncons x31).bind fun x32 =>
  (asRows (x32.1)).bind fun x33 =>
  (isNil x32.2).bind fun x34 =>
  (unconsO x30.2).bind fun x35 =>
  (asObCells x35.1).bind fun x36 =>
  (uncons x36).bind fun x37 =>
  (asRows (x37.1)).bind fun x38 =>
  (isNil x37.2).bind fun x39 =>
  (unconsO x35.2).bind fun x40 =>
  (asObCells x40.1).bind fun x41 =>
  (uncons x41).bind fun x42 =>
  (asInt .i64 (x42.1)).bind fun x43 =>
  (uncons x42.2).bind fun x44 =>
  (asInt .i64 (x44.1)).bind fun x45 =>
  (isNil x44.2).bind fun x46 =>
  (unconsO x40.2).bind fun x47 =>
  (asLoop x47.1).bind fun x48 =>
  (unconsO x47.2).bind fun x49 =>
  (asObCells x49.1).bind fun x50 =>
  (uncons x50).bind fun x51 =>
  (asFn (.yield 7) (x51.1)).bind fun x52 =>
  (isNil x52.1).bind fun x53 =>
  (isNil x52.2).bind fun x54 =>
  (isNil x51.2).bind fun x55 =>
  (unconsO x49.2).bind fun x56 =>
  (asObCells x56.1).bind fun x57 =>
  (uncons x57).bind fun x58 =>
  (asRows (x58.1)).bind fun x59 =>
  (isNil x58.2).bind fun x60 =>
  (unconsO x56.2).bind fun x61 =>
  (asObCells x61.1).bind fun x62 =>
  (uncons x62).bind fun x63 =>
  (asRows (x63.1)).bind fun x64 =>
  (isNil x63.2).bind fun x65 =>
  (C.s (.func 66) [.fn (.yield 11) [] [], .ptr 9 0, .ptr 10 0] [.cells [.slice .any x11], .cells [.slice .any x16], .cells [.int .i64 x21, .int .i64 x23], .cells [.int .i64 x28], .cells [.slice .any x33], .cells [.slice .any x38], .cells [.int .i64 x43, .int .i64 x45], .loop x48, .cells [.fn (.yield 7) [] []], .cells [.slice .any x59], .cells [.slice .any x64], .loop ⟨.ready, none, (sp 0 33 [(0, .fn (.yield 7) [] []), (1, .ptr 4 0), (2, .ptr 5 0), (3, .ptr 6 0), (4, .ptr 8 0), (6, .slice .any r5), (7, .slice .any r6), (8, .fn (.func 66) [] [.ptr 9 0, .ptr 10 0])]), 73, [9], rangeAssign GP 73 3, rangeBody GP 73 3⟩]).bind fun x66 =>
  (unconsO x66.2).bind fun x67 =>
  (asObCells x67.1).bind fun x68 =>
  (uncons x68).bind fun x69 =>
  (asRows (x69.1)).bind fun x70 =>
  (isNil x69.2).bind fun x71 =>
  (unconsO x67.2).bind fun x72 =>
  (asObCells x72.1).bind fun x73 =>
  (uncons x73).bind fun x74 =>
  (asRows (x74.1)).bind fun x75 =>
  (isNil x74.2).bind fun x76 =>
  (unconsO x72.2).bind fun x77 =>
  (asObCells x77.1).bind fun x78 =>
  (uncons x78).bind fun x79 =>
  (asInt .i64 (x79.1)).bind fun x80 =>
  (uncons x79.2).bind fun x81 =>
  (asInt .i64 (x81.1)).bind fun x82 =>
  (isNil x81.2).bind fun x83 =>
  (unconsO x77.2).bind fun x84 =>
  (asObCells x84.1).bind fun x85 =>
  (uncons x85).bind fun x86 =>
  (asInt .i64 (x86.1)).bind fun x87 =>
  (isNil x86.2).bind fun x88 =>
  (unconsO x84.2).bind fun x89 =>
  (asObCells x89.1).bind fun x90 =>
  (uncons x90).bind fun x91 =>
  (asRows (x91.1)).bind fun x92 =>
  (isNil x91.2).bind fun x93 =>
  (unconsO x89.2).bind fun x94 =>
  (asObCells x94.1).bind fun x95 =>
  (uncons x95).bind fun x96 =>
  (asRows (x96.1)).bind fun x97 =>
  (isNil x96.2).bind fun x98 =>
  (unconsO x94.2).bind fun x99 =>
  (asObCells x99.1).bind fun x100 =>
  (uncons x100).bind fun x101 =>
  (asInt .i64 (x101.1)).bind fun x102 =>
  (uncons x101.2).bind fun x103 =>
  (asInt .i64 (x103.1)).bind fun x104 =>
  (isNil x103.2).bind fun x105 =>
  (unconsO x99.2).bind fun x106 =>
  (asLoop x106.1).bind fun x107 =>
  (unconsO x106.2).bind fun x108 =>
  (asObCells x108.1).bind fun x109 =>
  (uncons x109).bind fun x110 =>
  (asFn (.yield 7) (x110.1)).bind fun x111 =>
  (isNil x111.1).bind fun x112 =>
  (isNil x111.2).bind fun x113 =>
  (isNil x110.2).bind fun x114 =>
  (unconsO x108.2).bind fun x115 =>
  (asObCells x115.1).bind fun x116 =>
  (uncons x116).bind fun x117 =>
  (asRows (x117.1)).bind fun x118 =>
  (isNil x117.2).bind fun x119 =>
  (unconsO x115.2).bind fun x120 =>
  (asObCells x120.1).bind fun x121 =>
  (uncons x121).bind fun x122 =>
  (asRows (x122.1)).bind fun x123 =>
  (isNil x122.2).bind fun x124 =>
  (unconsO x120.2).bind fun x125 =>
  (asLoop x125.1).bind fun x126 =>
  (endOf x126).bind fun x127 =>
  match x127 with
  | none =>
    some (.tuple [], [.cells [.slice .any x70], .cells [.slice .any x75], .cells [.int .i64 x80, .int .i64 x82], .cells [.int .i64 x87], .cells [.slice .any x92], .cells [.slice .any x97], .cells [.int .i64 x102, .int .i64 x104], .loop x107, .cells [.fn (.yield 7) [] []], .cells [.slice .any x118], .cells [.slice .any x123]])
  | some x128 =>
    match x128 with
    | .normal =>
      none
    | .exit x130 =>
      none
    | .ret =>
      some (.tuple [], [.cells [.slice .any x70], .cells [.slice .any x75], .cells [.int .i64 x80, .int .i64 x82], .cells [.int .i64 x87], .cells [.slice .any x92], .cells [.slice .any x97], .cells [.int .i64 x102, .int .i64 x104], .loop x107, .cells [.fn (.yield 7) [] []], .cells [.slice .any x118], .cells [.slice .any x123]]) := by kernel_rfl

theorem s44 (C : CallT) (r0 : List (List V)) (r1 : List (List V)) (n2 : Int) (n3 : Int) (n4 : Int) (r5 : List (List V)) (r6 : List (List V)) (n7 : Int) (n8 : Int) : run1 Go.Ab.G20 Go.Ab.L20 C (.func 44) [.slice .any r5, .slice .any r6, .agg [.int .i64 n7, .int .i64 n8]] [.cells [.slice .any r0], .cells [.slice .any r1], .cells [.int .i64 n2, .int .i64 n3], .cells [.int .i64 n4]] =
  some (.fn (.func 73) [] [.ptr 4 0, .ptr 5 0, .ptr 6 0], [.cells [.slice .any r0], .cells [.slice .any r1], .cells [.int .i64 n2, .int .i64 n3], .cells [.int .i64 n4], .cells [.slice .any r5], .cells [.slice .any r6], .cells [.int .i64 n7, .int .i64 n8]]) := by kernel_rfl

theorem e18 (C : CallT) (r0 : List (List V)) (r1 : List (List V)) (n2 : Int) (n3 : Int) : run1 Go.Ab.G20 Go.Ab.L20 C (.func 18) [.slice .any r0, .slice .any r1, .agg [.int .i64 n2, .int .i64 n3]] [] =
  (C.s (.func 44) [.slice .any r0, .slice .any r1, .agg [.int .i64 n2, .int .i64 n3]] [.cells [.slice .any r0], .cells [.slice .any r1], .cells [.int .i64 n2, .int .i64 n3], .cells [.int .i64 0]]).bind fun x0 =>
  (asFn (.func 73) (x0.1)).bind fun x1 =>
  (isNil x1.1).bind fun x2 =>
  (uncons x1.2).bind fun x3 =>
  (asPtr 4 0 (x3.1)).bind fun x4 =>
  (uncons x3.2).bind fun x5 =>
  (asPtr 5 0 (x5.1)).bind fun x6 =>
  (uncons x5.2).bind fun x7 =>
  (asPtr 6 0 (x7.1)).bind fun x8 =>
  (isNil x7.2).bind fun x9 =>
  (unconsO x0.2).bind fun x10 =>
  (asObCells x10.1).bind fun x11 =>
  (uncons x11).bind fun x12 =>
  (asRows (x12.1)).bind fun x13 =>
  (isNil x12.2).bind fun x14 =>
  (unconsO x10.2).bind fun x15 =>
  (asObCells x15.1).bind fun x16 =>
  (uncons x16).bind fun x17 =>
  (asRows (x17.1)).bind fun x18 =>
  (isNil x17.2).bind fun x19 =>
  (unconsO x15.2).bind fun x20 =>
  (asObCells x20.1).bind fun x21 =>
  (uncons x21).bind fun x22 =>
  (asInt .i64 (x22.1)).bind fun x23 =>
  (uncons x22.2).bind fun x24 =>
  (asInt .i64 (x24.1)).bind fun x25 =>
  (isNil x24.2).bind fun x26 =>
  (unconsO x20.2).bind fun x27 =>
  (asObCells x27.1).bind fun x28 =>
  (uncons x28).bind fun x29 =>
  (asInt .i64 (x29.1)).bind fun x30 =>
  (isNil x29.2).bind fun x31 =>
  (unconsO x27.2).bind fun x32 =>
  (asObCells x32.1).bind fun x33 =>
  (uncons x33).bind fun x34 =>
  (asRows (x34.1)).bind fun x35 =>
  (isNil x34.2).bind fun x36 =>
  (unconsO x32.2).bind fun x37 =>
  (asObCells x37.1).bind fun x38 =>
  (uncons x38).bind fun x39 =>
  (asRows (x39.1)).bind fun x40 =>
  (isNil x39.2).bind fun x41 =>
  (unconsO x37.2).bind fun x42 =>
  (asObCells x42.1).bind fun x43 =>
  (uncons x43).bind fun x44 =>
  (asInt .i64 (x44.1)).bind fun x45 =>
  (uncons x44.2).bind fun x46 =>
  (asInt .i64 (x46.1)).bind fun x47 =>
  (isNil x46.2).bind fun x48 =>
  (C.s (.func 73) [.fn (.yield 7) [] [], .ptr 4 0, .ptr 5 0, .ptr 6 0] [.cells [.slice .any x13], .cells [.slice .any x18], .cells [.int .i64 x23, .int .i64 x25], .cells [.int .i64 x30], .cells [.slice .any x35], .cells [.slice .any x40], .cells [.int .i64 x45, .int .i64 x47], .loop ⟨.ready, none, (sp 0 41 [(0, .slice .any r0), (1, .slice .any r1), (2, .agg [.int .i64 n2, .int .i64 n3]), (3, .ptr 0 0), (4, .ptr 1 0), (5, .ptr 2 0), (6, .ptr 3 0), (11, .slice .any r0), (12, .slice .any r1), (13, .agg [.int .i64 n2, .int .i64 n3]), (14, .fn (.func 73) [] [.ptr 4 0, .ptr 5 0, .ptr 6 0])]), 18, [15], rangeAssign GP 18 2, rangeBody GP 18 2⟩]).bind fun x49 =>
  (unconsO x49.2).bind fun x50 =>
  (asObCells x50.1).bind fun x51 =>
  (uncons x51).bind fun x52 =>
  (asRows (x52.1)).bind fun x53 =>
  (isNil x52.2).bind fun x54 =>
  (unconsO x50.2).bind fun x55 =>
  (asObCells x55.1).bind fun x56 =>
  (uncons x56).bind fun x57 =>
  (asRows (x57.1)).bind fun x58 =>
  (isNil x57.2).bind fun x59 =>
  (unconsO x55.2).bind fun x60 =>
  (asObCells x60.1).bind fun x61 =>
  (uncons x61).bind fun x62 =>
  (asInt .i64 (x62.1)).bind fun x63 =>
  (uncons x62.2).bind fun x64 =>
  (asInt .i64 (x64.1)).bind fun x65 =>
  (isNil x64.2).bind fun x66 =>
  (unconsO x60.2).bind fun x67 =>
  (asObCells x67.1).bind fun x68 =>
  (uncons x68).bind fun x69 =>
  (asInt .i64 (x69.1)).bind fun x70 =>
  (isNil x69.2).bind fun x71 =>
  (unconsO x67.2).bind fun x72 =>
  (asObCells x72.1).bind fun x73 =>
  (uncons x73).bind fun x74 =>
  (asRows (x74.1)).bind fun x75 =>
  (isNil x74.2).bind fun x76 =>
  (unconsO x72.2).bind fun x77 =>
  (asObCells x77.1).bind fun x78 =>
  (uncons x78).bind fun x79 =>
  (asRows (x79.1)).bind fun x80 =>
  (isNil x79.2).bind fun x81 =>
  (unconsO x77.2).bind fun x82 =>
  (asObCells x82.1).bind fun x83 =>
  (uncons x83).bind fun x84 =>
  (asInt .i64 (x84.1)).bind fun x85 =>
  (uncons x84.2).bind fun x86 =>
  (asInt .i64 (x86.1)).bind fun x87 =>
  (isNil x86.2).bind fun x88 =>
  (unconsO x82.2).bind fun x89 =>
  (asLoop x89.1).bind fun x90 =>
  (endOf x90).bind fun x91 =>
  match x91 with
  | none =>
    some (.int .i64 1, [.cells [.slice .any x53], .cells [.slice .any x58], .cells [.int .i64 x63, .int .i64 x65], .cells [.int .i64 1], .cells [.slice .any x75], .cells [.slice .any x80], .cells [.int .i64 x85, .int .i64 x87]])
  | some x92 =>
    match x92 with
    | .normal =>
      none
    | .exit x94 =>
      none
    | .ret =>
      some (.int .i64 x70, [.cells [.slice .any x53], .cells [.slice .any x58], .cells [.int .i64 x63, .int .i64 x65], .cells [.int .i64 x70], .cells [.slice .any x75], .cells [.slice .any x80], .cells [.int .i64 x85, .int .i64 x87]]) := by kernel_rfl

theorem e17 (C : CallT) (n0 : Int) (n1 : Int) (n2 : Int) (n3 : Int) : run1 Go.Ab.G20 Go.Ab.L20 C (.func 17) [.agg [.int .i64 n0, .int .i64 n1], .agg [.int .i64 n2, .int .i64 n3]] [] =
  cond (n0 == n2) (
   some (.bool (n1 == n3), [])) (
   some (.bool false, [])) := by kernel_rfl

theorem e24 (C : CallT) (n0 : Int) (n1 : Int) (r2 : List (List V)) (r3 : List (List V)) (r4 : List (List V)) (r5 : List (List V)) : run1 Go.Ab.G20 Go.Ab.L20 C (.func 24) [.agg [.int .i64 n0, .int .i64 n1, .slice .any r2, .slice .any r3, .slice .any r4, .slice .any r5]] [] =
  some (.agg [.int .i64 n0, .int .i64 (Go.IntKind.wrap .i64 (n0 + n1))], []) := by kernel_rfl

theorem e83 (C : CallT) (n0 : Int) (n1 : Int) : run1 Go.Ab.G20 Go.Ab.L20 C (.func 83) [.agg [.int .i64 n0, .int .i64 n1]] [] =
  some (.agg [.int .i64 (Go.IntKind.wrap .i64 (0 - n1)), .int .i64 (Go.IntKind.wrap .i64 (0 - n0))], []) := by kernel_rfl

theorem e58 (C : CallT) (n0 : Int) (n1 : Int) (n2 : Int) (n3 : Int) : run1 Go.Ab.G20 Go.Ab.L20 C (.func 58) [.agg [.int .i64 n0, .int .i64 n1], .agg [.int .i64 n2, .int .i64 n3]] [] =
  (C.p (.func 83) [.agg [.int .i64 n2, .int .i64 n3]]).bind fun x0 =>
  (asCells (x0)).bind fun x1 =>
  (uncons x1).bind fun x2 =>
  (asInt .i64 (x2.1)).bind fun x3 =>
  (uncons x2.2).bind fun x4 =>
  (asInt .i64 (x4.1)).bind fun x5 =>
  (isNil x4.2).bind fun x6 =>
  (C.p (.func 56) [.agg [.int .i64 n0, .int .i64 n1], .agg [.int .i64 x3, .int .i64 x5]]).bind fun x7 =>
  (asCells (x7)).bind fun x8 =>
  (uncons x8).bind fun x9 =>
  (asInt .i64 (x9.1)).bind fun x10 =>
  (uncons x9.2).bind fun x11 =>
  (asInt .i64 (x11.1)).bind fun x12 =>
  (isNil x11.2).bind fun x13 =>
  some (.agg [.int .i64 x10, .int .i64 x12], []) := by kernel_rfl

theorem e47 (C : CallT) (n0 : Int) (n1 : Int) : run1 Go.Ab.G20 Go.Ab.L20 C (.func 47) [.int .i64 n0, .int .i64 n1] [] =
  cond (n1 == 0) (
   none) (
   cond (n1 == 0) (
    none) (
    cond ((Int.tmod n0 n1) != 0) (
     cond (!((decide (n0 < 0)) == (decide (n1 < 0)))) (
      some (.int .i64 (Go.IntKind.wrap .i64 ((Go.IntKind.wrap .i64 (Int.tdiv n0 n1)) - 1)), [])) (
      some (.int .i64 (Go.IntKind.wrap .i64 (Int.tdiv n0 n1)), []))) (
     some (.int .i64 (Go.IntKind.wrap .i64 (Int.tdiv n0 n1)), [])))) := by kernel_rfl

theorem e82 (C : CallT) (n0 : Int) (n1 : Int) : run1 Go.Ab.G20 Go.Ab.L20 C (.func 82) [.int .i64 n0, .int .i64 n1] [] =
  (C.p (.func 47) [.int .i64 (Go.IntKind.wrap .i64 (0 - n0)), .int .i64 n1]).bind fun x0 =>
  (asInt .i64 (x0)).bind fun x1 =>
  some (.int .i64 (Go.IntKind.wrap .i64 (0 - x1)), []) := by kernel_rfl

theorem e57 (C : CallT) (n0 : Int) (n1 : Int) : run1 Go.Ab.G20 Go.Ab.L20 C (.func 57) [.agg [.int .i64 n0, .int .i64 n1]] [] =
  (C.p (.func 26) [.agg [.int .i64 n0, .int .i64 n1]]).bind fun x0 =>
  (asBool (x0)).bind fun x1 =>
  cond x1 (
   (C.p (.func 72) []).bind fun x35 =>
   (asCells (x35)).bind fun x36 =>
   (uncons x36).bind fun x37 =>
   (asInt .i64 (x37.1)).bind fun x38 =>
   (uncons x37.2).bind fun x39 =>
   (asInt .i64 (x39.1)).bind fun x40 =>
   (isNil x39.2).bind fun x41 =>
   some (.agg [.int .i64 x38, .int .i64 x40], [])) (
   cond (decide (n0 ≤ 0)) (
    cond (decide (n1 ≥ 0)) (
     (C.p (.func 47) [.int .i64 0, .int .i64 65536]).bind fun x24 =>
     (asInt .i64 (x24)).bind fun x25 =>
     (C.p (.func 82) [.int .i64 (if (Go.IntKind.wrap .i64 (n1 * n1)) > (Go.IntKind.wrap .i64 (n0 * n0)) then (Go.IntKind.wrap .i64 (n1 * n1)) else (Go.IntKind.wrap .i64 (n0 * n0))), .int .i64 65536]).bind fun x26 =>
     (asInt .i64 (x26)).bind fun x27 =>
     (C.p (.func 43) [.int .i64 x25, .int .i64 x27]).bind fun x28 =>
     (asCells (x28)).bind fun x29 =>
     (uncons x29).bind fun x30 =>
     (asInt .i64 (x30.1)).bind fun x31 =>
     (uncons x30.2).bind fun x32 =>
     (asInt .i64 (x32.1)).bind fun x33 =>
     (isNil x32.2).bind fun x34 =>
     some (.agg [.int .i64 x31, .int .i64 x33], [])) (
     (C.p (.func 47) [.int .i64 (if (Go.IntKind.wrap .i64 (n1 * n1)) < (Go.IntKind.wrap .i64 (n0 * n0)) then (Go.IntKind.wrap .i64 (n1 * n1)) else (Go.IntKind.wrap .i64 (n0 * n0))), .int .i64 65536]).bind fun x13 =>
     (asInt .i64 (x13)).bind fun x14 =>
     (C.p (.func 82) [.int .i64 (if (Go.IntKind.wrap .i64 (n1 * n1)) > (Go.IntKind.wrap .i64 (n0 * n0)) then (Go.IntKind.wrap .i64 (n1 * n1)) else (Go.IntKind.wrap .i64 (n0 * n0))), .int .i64 65536]).bind fun x15 =>
     (asInt .i64 (x15)).bind fun x16 =>
     (C.p (.func 43) [.int .i64 x14, .int .i64 x16]).bind fun x17 =>
     (asCells (x17)).bind fun x18 =>
     (uncons x18).bind fun x19 =>
     (asInt .i64 (x19.1)).bind fun x20 =>
     (uncons x19.2).bind fun x21 =>
     (asInt .i64 (x21.1)).bind fun x22 =>
     (isNil x21.2).bind fun x23 =>
     some (.agg [.int .i64 x20, .int .i64 x22], []))) (
    (C.p (.func 47) [.int .i64 (if (Go.IntKind.wrap .i64 (n1 * n1)) < (Go.IntKind.wrap .i64 (n0 * n0)) then (Go.IntKind.wrap .i64 (n1 * n1)) else (Go.IntKind.wrap .i64 (n0 * n0))), .int .i64 65536]).bind fun x2 =>
    (asInt .i64 (x2)).bind fun x3 =>
    (C.p (.func 82) [.int .i64 (if (Go.IntKind.wrap .i64 (n1 * n1)) > (Go.IntKind.wrap .i64 (n0 * n0)) then (Go.IntKind.wrap .i64 (n1 * n1)) else (Go.IntKind.wrap .i64 (n0 * n0))), .int .i64 65536]).bind fun x4 =>
    (asInt .i64 (x4)).bind fun x5 =>
    (C.p (.func 43) [.int .i64 x3, .int .i64 x5]).bind fun x6 =>
    (asCells (x6)).bind fun x7 =>
    (uncons x7).bind fun x8 =>
    (asInt .i64 (x8.1)).bind fun x9 =>
    (uncons x8.2).bind fun x10 =>
    (asInt .i64 (x10.1)).bind fun x11 =>
    (isNil x10.2).bind fun x12 =>
    some (.agg [.int .i64 x9, .int .i64 x11], []))) := by kernel_rfl

theorem e56 (C : CallT) (n0 : Int) (n1 : Int) (n2 : Int) (n3 : Int) : run1 Go.Ab.G20 Go.Ab.L20 C (.func 56) [.agg [.int .i64 n0, .int .i64 n1], .agg [.int .i64 n2, .int .i64 n3]] [] =
  (C.p (.func 26) [.agg [.int .i64 n0, .int .i64 n1]]).bind fun x0 =>
  (asBool (x0)).bind fun x1 =>
  cond x1 (
   (C.p (.func 72) []).bind fun x18 =>
   (asCells (x18)).bind fun x19 =>
   (uncons x19).bind fun x20 =>
   (asInt .i64 (x20.1)).bind fun x21 =>
   (uncons x20.2).bind fun x22 =>
   (asInt .i64 (x22.1)).bind fun x23 =>
   (isNil x22.2).bind fun x24 =>
   some (.agg [.int .i64 x21, .int .i64 x23], [])) (
   (C.p (.func 26) [.agg [.int .i64 n2, .int .i64 n3]]).bind fun x2 =>
   (asBool (x2)).bind fun x3 =>
   cond x3 (
    (C.p (.func 72) []).bind fun x11 =>
    (asCells (x11)).bind fun x12 =>
    (uncons x12).bind fun x13 =>
    (asInt .i64 (x13.1)).bind fun x14 =>
    (uncons x13.2).bind fun x15 =>
    (asInt .i64 (x15.1)).bind fun x16 =>
    (isNil x15.2).bind fun x17 =>
    some (.agg [.int .i64 x14, .int .i64 x16], [])) (
    (C.p (.func 43) [.int .i64 (Go.IntKind.wrap .i64 (n0 + n2)), .int .i64 (Go.IntKind.wrap .i64 (n1 + n3))]).bind fun x4 =>
    (asCells (x4)).bind fun x5 =>
    (uncons x5).bind fun x6 =>
    (asInt .i64 (x6.1)).bind fun x7 =>
    (uncons x6.2).bind fun x8 =>
    (asInt .i64 (x8.1)).bind fun x9 =>
    (isNil x8.2).bind fun x10 =>
    some (.agg [.int .i64 x7, .int .i64 x9], []))) := by kernel_rfl

theorem e27_3 (C : CallT) (r0 : List (List V)) (r1 : List (List V)) (n2 : Int) (n3 : Int) (n4 : Int) (n5 : Int) (n6 : Int) : roundK Go.Ab.G20 Go.Ab.L20 C 27 none 3 ⟨(sp 0 27 [(0, .slice .any r0), (1, .slice .any r1), (4, .box [.int .i64 n2, .int .i64 n3]), (5, .box [.int .i64 n4, .int .i64 n5]), (6, .int .i64 n6)]), []⟩ =
  cond (decide (n6 < ((r0.length : Nat) : Int))) (
   (getRow r0 n6 2).bind fun x0 =>
   (uncons x0).bind fun x1 =>
   (asInt .i64 (x1.1)).bind fun x2 =>
   (uncons x1.2).bind fun x3 =>
   (asInt .i64 (x3.1)).bind fun x4 =>
   (isNil x3.2).bind fun x5 =>
   (getRow r1 n6 2).bind fun x6 =>
   (uncons x6).bind fun x7 =>
   (asInt .i64 (x7.1)).bind fun x8 =>
   (uncons x7.2).bind fun x9 =>
   (asInt .i64 (x9.1)).bind fun x10 =>
   (isNil x9.2).bind fun x11 =>
   (C.p (.func 58) [.agg [.int .i64 x2, .int .i64 x4], .agg [.int .i64 x8, .int .i64 x10]]).bind fun x12 =>
   (asCells (x12)).bind fun x13 =>
   (uncons x13).bind fun x14 =>
   (asInt .i64 (x14.1)).bind fun x15 =>
   (uncons x14.2).bind fun x16 =>
   (asInt .i64 (x16.1)).bind fun x17 =>
   (isNil x16.2).bind fun x18 =>
   (C.p (.func 57) [.agg [.int .i64 x15, .int .i64 x17]]).bind fun x19 =>
   (asCells (x19)).bind fun x20 =>
   (uncons x20).bind fun x21 =>
   (asInt .i64 (x21.1)).bind fun x22 =>
   (uncons x21.2).bind fun x23 =>
   (asInt .i64 (x23.1)).bind fun x24 =>
   (isNil x23.2).bind fun x25 =>
   (C.p (.func 56) [.agg [.int .i64 n4, .int .i64 n5], .agg [.int .i64 x22, .int .i64 x24]]).bind fun x26 =>
   (asCells (x26)).bind fun x27 =>
   (uncons x27).bind fun x28 =>
   (asInt .i64 (x28.1)).bind fun x29 =>
   (uncons x28.2).bind fun x30 =>
   (asInt .i64 (x30.1)).bind fun x31 =>
   (isNil x30.2).bind fun x32 =>
   some (.normal, ⟨(sp 0 27 [(0, .slice .any r0), (1, .slice .any r1), (4, .box [.int .i64 n2, .int .i64 n3]), (5, .box [.int .i64 x29, .int .i64 x31]), (6, .int .i64 (Go.IntKind.wrap .i64 (n6 + 1)))]), []⟩)) (
   some ((.exit 0), ⟨(sp 0 27 [(0, .slice .any r0), (1, .slice .any r1), (4, .box [.int .i64 n2, .int .i64 n3]), (5, .box [.int .i64 n4, .int .i64 n5]), (6, .int .i64 n6)]), []⟩)) := by kernel_rfl

theorem e27 (C : CallT) (r0 : List (List V)) (r1 : List (List V)) : run1 Go.Ab.G20 Go.Ab.L20 C (.func 27) [.slice .any r0, .slice .any r1] [] =
  (C.w (roundK Go.Ab.G20 Go.Ab.L20 C 27 none 3) ⟨(sp 0 27 [(0, .slice .any r0), (1, .slice .any r1), (4, .box [.int .i64 0, .int .i64 0]), (5, .box [.int .i64 0, .int .i64 0]), (6, .int .i64 0)]), []⟩).bind fun x0 =>
  match x0.1 with
  | .normal =>
    none
  | .exit x2 =>
    cond (Nat.beq x2 0) (
     (asRows ((nth x0.2.t 0))).bind fun x3 =>
     (asRows ((nth x0.2.t 1))).bind fun x4 =>
     (asBox ((nth x0.2.t 4))).bind fun x5 =>
     (uncons x5).bind fun x6 =>
     (asInt .i64 (x6.1)).bind fun x7 =>
     (uncons x6.2).bind fun x8 =>
     (asInt .i64 (x8.1)).bind fun x9 =>
     (isNil x8.2).bind fun x10 =>
     (asBox ((nth x0.2.t 5))).bind fun x11 =>
     (uncons x11).bind fun x12 =>
     (asInt .i64 (x12.1)).bind fun x13 =>
     (uncons x12.2).bind fun x14 =>
     (asInt .i64 (x14.1)).bind fun x15 =>
     (isNil x14.2).bind fun x16 =>
     (asInt .i64 ((nth x0.2.t 6))).bind fun x17 =>
     some (.agg [.int .i64 x13, .int .i64 x15], [])) (
     none)
  | .ret =>
    none := by kernel_rfl

theorem e42 (C : CallT) (n0 : Int) (n1 : Int) (r2 : List (List V)) (r3 : List (List V)) (r4 : List (List V)) (r5 : List (List V)) (n6 : Int) (n7 : Int) (r8 : List (List V)) (r9 : List (List V)) (r10 : List (List V)) (r11 : List (List V)) (n12 : Int) : run1 Go.Ab.G20 Go.Ab.L20 C (.func 42) [.agg [.int .i64 n0, .int .i64 n1, .slice .any r2, .slice .any r3, .slice .any r4, .slice .any r5], .agg [.int .i64 n6, .int .i64 n7, .slice .any r8, .slice .any r9, .slice .any r10, .slice .any r11], .int .i64 n12] [] =
  cond (decide (0 ≤ n12)) (
   cond (decide (n12.toNat ≤ r4.length)) (
    cond (decide (0 ≤ n12)) (
     cond (decide (n12.toNat ≤ r10.length)) (
      (C.p (.func 27) [.slice .any ((r4.take n12.toNat).drop 0), .slice .any ((r10.take n12.toNat).drop 0)]).bind fun x0 =>
      (asCells (x0)).bind fun x1 =>
      (uncons x1).bind fun x2 =>
      (asInt .i64 (x2.1)).bind fun x3 =>
      (uncons x2.2).bind fun x4 =>
      (asInt .i64 (x4.1)).bind fun x5 =>
      (isNil x4.2).bind fun x6 =>
      some (.agg [.int .i64 x3, .int .i64 x5], [])) (
      none)) (
     none)) (
    none)) (
   none) := by kernel_rfl

theorem e26 (C : CallT) (n0 : Int) (n1 : Int) : run1 Go.Ab.G20 Go.Ab.L20 C (.func 26) [.agg [.int .i64 n0, .int .i64 n1]] [] =
  cond (n0 == (-2147483648)) (
   some (.bool (n1 == 2147483648), [])) (
   some (.bool false, [])) := by kernel_rfl

theorem e71 (C : CallT) (n0 : Int) : run1 Go.Ab.G20 Go.Ab.L20 C (.func 71) [.int .i64 n0] [] =
  cond (decide (n0 > (-2147483648))) (
   some (.bool (decide (n0 < 2147483648)), [])) (
   some (.bool false, [])) := by kernel_rfl

theorem e72 (C : CallT)  : run1 Go.Ab.G20 Go.Ab.L20 C (.func 72) [] [] =
  some (.agg [.int .i64 (-2147483648), .int .i64 2147483648], []) := by kernel_rfl

theorem e43 (C : CallT) (n0 : Int) (n1 : Int) : run1 Go.Ab.G20 Go.Ab.L20 C (.func 43) [.int .i64 n0, .int .i64 n1] [] =
  (C.p (.func 71) [.int .i64 n0]).bind fun x0 =>
  (asBool (x0)).bind fun x1 =>
  cond (!x1) (
   (C.p (.func 72) []).bind fun x11 =>
   (asCells (x11)).bind fun x12 =>
   (uncons x12).bind fun x13 =>
   (asInt .i64 (x13.1)).bind fun x14 =>
   (uncons x13.2).bind fun x15 =>
   (asInt .i64 (x15.1)).bind fun x16 =>
   (isNil x15.2).bind fun x17 =>
   some (.agg [.int .i64 x14, .int .i64 x16], [])) (
   (C.p (.func 71) [.int .i64 n1]).bind fun x2 =>
   (asBool (x2)).bind fun x3 =>
   cond (!x3) (
    (C.p (.func 72) []).bind fun x4 =>
    (asCells (x4)).bind fun x5 =>
    (uncons x5).bind fun x6 =>
    (asInt .i64 (x6.1)).bind fun x7 =>
    (uncons x6.2).bind fun x8 =>
    (asInt .i64 (x8.1)).bind fun x9 =>
    (isNil x8.2).bind fun x10 =>
    some (.agg [.int .i64 x7, .int .i64 x9], [])) (
    some (.agg [.int .i64 n0, .int .i64 n1], []))) := by kernel_rfl

theorem e16_6 (C : CallT) (r0 : List (List V)) (r1 : List (List V)) (n2 : Int) (n3 : Int) (n4 : Int) (n5 : Int) (n6 : Int) (b7 : Bool) (n8 : Int) (n9 : Int) : roundK Go.Ab.G20 Go.Ab.L20 C 16 none 6 ⟨(sp 0 72 [(0, .slice .any r0), (1, .slice .any r1), (2, .int .i64 n2), (6, .box [.int .i64 n3, .int .i64 n4]), (8, .int .i64 n5), (9, .int .i64 n6), (10, .bool b7), (11, .int .i64 n8), (12, .int .i64 n9)]), []⟩ =
  cond (decide (n9 < ((r1.length : Nat) : Int))) (
   (getRow r0 n8 6).bind fun x0 =>
   (uncons x0).bind fun x1 =>
   (asInt .i64 (x1.1)).bind fun x2 =>
   (uncons x1.2).bind fun x3 =>
   (asInt .i64 (x3.1)).bind fun x4 =>
   (uncons x3.2).bind fun x5 =>
   (asRows (x5.1)).bind fun x6 =>
   (uncons x5.2).bind fun x7 =>
   (asRows (x7.1)).bind fun x8 =>
   (uncons x7.2).bind fun x9 =>
   (asRows (x9.1)).bind fun x10 =>
   (uncons x9.2).bind fun x11 =>
   (asRows (x11.1)).bind fun x12 =>
   (isNil x11.2).bind fun x13 =>
   (C.p (.func 24) [.agg [.int .i64 x2, .int .i64 x4, .slice .any x6, .slice .any x8, .slice .any x10, .slice .any x12]]).bind fun x14 =>
   (asCells (x14)).bind fun x15 =>
   (uncons x15).bind fun x16 =>
   (asInt .i64 (x16.1)).bind fun x17 =>
   (uncons x16.2).bind fun x18 =>
   (asInt .i64 (x18.1)).bind fun x19 =>
   (isNil x18.2).bind fun x20 =>
   (getRow r1 n9 6).bind fun x21 =>
   (uncons x21).bind fun x22 =>
   (asInt .i64 (x22.1)).bind fun x23 =>
   (uncons x22.2).bind fun x24 =>
   (asInt .i64 (x24.1)).bind fun x25 =>
   (uncons x24.2).bind fun x26 =>
   (asRows (x26.1)).bind fun x27 =>
   (uncons x26.2).bind fun x28 =>
   (asRows (x28.1)).bind fun x29 =>
   (uncons x28.2).bind fun x30 =>
   (asRows (x30.1)).bind fun x31 =>
   (uncons x30.2).bind fun x32 =>
   (asRows (x32.1)).bind fun x33 =>
   (isNil x32.2).bind fun x34 =>
   (C.p (.func 24) [.agg [.int .i64 x23, .int .i64 x25, .slice .any x27, .slice .any x29, .slice .any x31, .slice .any x33]]).bind fun x35 =>
   (asCells (x35)).bind fun x36 =>
   (uncons x36).bind fun x37 =>
   (asInt .i64 (x37.1)).bind fun x38 =>
   (uncons x37.2).bind fun x39 =>
   (asInt .i64 (x39.1)).bind fun x40 =>
   (isNil x39.2).bind fun x41 =>
   (C.p (.func 23) [.agg [.int .i64 x17, .int .i64 x19], .agg [.int .i64 x38, .int .i64 x40]]).bind fun x42 =>
   (asTuple (x42)).bind fun x43 =>
   (uncons x43).bind fun x44 =>
   (asCells (x44.1)).bind fun x45 =>
   (uncons x45).bind fun x46 =>
   (asInt .i64 (x46.1)).bind fun x47 =>
   (uncons x46.2).bind fun x48 =>
   (asInt .i64 (x48.1)).bind fun x49 =>
   (isNil x48.2).bind fun x50 =>
   (uncons x44.2).bind fun x51 =>
   (asBool (x51.1)).bind fun x52 =>
   (isNil x51.2).bind fun x53 =>
   cond (!x52) (
    some (.normal, ⟨(sp 0 72 [(0, .slice .any r0), (1, .slice .any r1), (2, .int .i64 n2), (6, .box [.int .i64 n3, .int .i64 n4]), (8, .int .i64 n5), (9, .int .i64 n6), (10, .bool b7), (11, .int .i64 n8), (12, .int .i64 (Go.IntKind.wrap .i64 (n9 + 1)))]), []⟩)) (
    (getRow r0 n8 6).bind fun x54 =>
    (uncons x54).bind fun x55 =>
    (asInt .i64 (x55.1)).bind fun x56 =>
    (uncons x55.2).bind fun x57 =>
    (asInt .i64 (x57.1)).bind fun x58 =>
    (uncons x57.2).bind fun x59 =>
    (asRows (x59.1)).bind fun x60 =>
    (uncons x59.2).bind fun x61 =>
    (asRows (x61.1)).bind fun x62 =>
    (uncons x61.2).bind fun x63 =>
    (asRows (x63.1)).bind fun x64 =>
    (uncons x63.2).bind fun x65 =>
    (asRows (x65.1)).bind fun x66 =>
    (isNil x65.2).bind fun x67 =>
    (getRow r1 n9 6).bind fun x68 =>
    (uncons x68).bind fun x69 =>
    (asInt .i64 (x69.1)).bind fun x70 =>
    (uncons x69.2).bind fun x71 =>
    (asInt .i64 (x71.1)).bind fun x72 =>
    (uncons x71.2).bind fun x73 =>
    (asRows (x73.1)).bind fun x74 =>
    (uncons x73.2).bind fun x75 =>
    (asRows (x75.1)).bind fun x76 =>
    (uncons x75.2).bind fun x77 =>
    (asRows (x77.1)).bind fun x78 =>
    (uncons x77.2).bind fun x79 =>
    (asRows (x79.1)).bind fun x80 =>
    (isNil x79.2).bind fun x81 =>
    (C.p (.func 42) [.agg [.int .i64 x56, .int .i64 x58, .slice .any x60, .slice .any x62, .slice .any x64, .slice .any x66], .agg [.int .i64 x70, .int .i64 x72, .slice .any x74, .slice .any x76, .slice .any x78, .slice .any x80], .int .i64 n2]).bind fun x82 =>
    (asCells (x82)).bind fun x83 =>
    (uncons x83).bind fun x84 =>
    (asInt .i64 (x84.1)).bind fun x85 =>
    (uncons x84.2).bind fun x86 =>
    (asInt .i64 (x86.1)).bind fun x87 =>
    (isNil x86.2).bind fun x88 =>
    (C.p (.func 26) [.agg [.int .i64 x85, .int .i64 x87]]).bind fun x89 =>
    (asBool (x89)).bind fun x90 =>
    cond x90 (
     some (.normal, ⟨(sp 0 72 [(0, .slice .any r0), (1, .slice .any r1), (2, .int .i64 n2), (6, .box [.int .i64 n3, .int .i64 n4]), (8, .int .i64 (if 0 < n5 then 0 else n5)), (9, .int .i64 n6), (10, .bool true), (11, .int .i64 n8), (12, .int .i64 (Go.IntKind.wrap .i64 (n9 + 1)))]), []⟩)) (
     some (.normal, ⟨(sp 0 72 [(0, .slice .any r0), (1, .slice .any r1), (2, .int .i64 n2), (6, .box [.int .i64 n3, .int .i64 n4]), (8, .int .i64 (if x85 < n5 then x85 else n5)), (9, .int .i64 (if x87 < n6 then x87 else n6)), (10, .bool true), (11, .int .i64 n8), (12, .int .i64 (Go.IntKind.wrap .i64 (n9 + 1)))]), []⟩)))) (
   some ((.exit 2), ⟨(sp 0 72 [(0, .slice .any r0), (1, .slice .any r1), (2, .int .i64 n2), (6, .box [.int .i64 n3, .int .i64 n4]), (8, .int .i64 n5), (9, .int .i64 n6), (10, .bool b7), (11, .int .i64 n8), (12, .int .i64 n9)]), []⟩)) := by kernel_rfl

theorem e16_3 (C : CallT) (r0 : List (List V)) (r1 : List (List V)) (n2 : Int) (n3 : Int) (n4 : Int) (n5 : Int) (n6 : Int) (b7 : Bool) (n8 : Int) : roundK Go.Ab.G20 Go.Ab.L20 C 16 none 3 ⟨(sp 0 72 [(0, .slice .any r0), (1, .slice .any r1), (2, .int .i64 n2), (6, .box [.int .i64 n3, .int .i64 n4]), (8, .int .i64 n5), (9, .int .i64 n6), (10, .bool b7), (11, .int .i64 n8)]), []⟩ =
  cond (decide (n8 < ((r0.length : Nat) : Int))) (
   (C.w (roundK Go.Ab.G20 Go.Ab.L20 C 16 none 6) ⟨(sp 0 72 [(0, .slice .any r0), (1, .slice .any r1), (2, .int .i64 n2), (6, .box [.int .i64 n3, .int .i64 n4]), (8, .int .i64 n5), (9, .int .i64 n6), (10, .bool b7), (11, .int .i64 n8), (12, .int .i64 0)]), []⟩).bind fun x0 =>
   match x0.1 with
   | .normal =>
     none
   | .exit x2 =>
     cond (Nat.beq x2 2) (
      (asRows ((nth x0.2.t 0))).bind fun x3 =>
      (asRows ((nth x0.2.t 1))).bind fun x4 =>
      (asInt .i64 ((nth x0.2.t 2))).bind fun x5 =>
      (asBox ((nth x0.2.t 6))).bind fun x6 =>
      (uncons x6).bind fun x7 =>
      (asInt .i64 (x7.1)).bind fun x8 =>
      (uncons x7.2).bind fun x9 =>
      (asInt .i64 (x9.1)).bind fun x10 =>
      (isNil x9.2).bind fun x11 =>
      (asInt .i64 ((nth x0.2.t 8))).bind fun x12 =>
      (asInt .i64 ((nth x0.2.t 9))).bind fun x13 =>
      (asBool ((nth x0.2.t 10))).bind fun x14 =>
      (asInt .i64 ((nth x0.2.t 11))).bind fun x15 =>
      (asInt .i64 ((nth x0.2.t 12))).bind fun x16 =>
      some (.normal, ⟨(sp 0 72 [(0, .slice .any x3), (1, .slice .any x4), (2, .int .i64 x5), (6, .box [.int .i64 x8, .int .i64 x10]), (8, .int .i64 x12), (9, .int .i64 x13), (10, .bool x14), (11, .int .i64 (Go.IntKind.wrap .i64 (x15 + 1)))]), []⟩)) (
      none)
   | .ret =>
     none) (
   some ((.exit 0), ⟨(sp 0 72 [(0, .slice .any r0), (1, .slice .any r1), (2, .int .i64 n2), (6, .box [.int .i64 n3, .int .i64 n4]), (8, .int .i64 n5), (9, .int .i64 n6), (10, .bool b7), (11, .int .i64 n8)]), []⟩)) := by kernel_rfl

theorem e16 (C : CallT) (r0 : List (List V)) (r1 : List (List V)) (n2 : Int) : run1 Go.Ab.G20 Go.Ab.L20 C (.func 16) [.slice .any r0, .slice .any r1, .int .i64 n2] [] =
  (C.w (roundK Go.Ab.G20 Go.Ab.L20 C 16 none 3) ⟨(sp 0 72 [(0, .slice .any r0), (1, .slice .any r1), (2, .int .i64 n2), (6, .box [.int .i64 0, .int .i64 0]), (8, .int .i64 2147483648), (9, .int .i64 2147483648), (10, .bool false), (11, .int .i64 0)]), []⟩).bind fun x0 =>
  match x0.1 with
  | .normal =>
    none
  | .exit x2 =>
    cond (Nat.beq x2 0) (
     (asRows ((nth x0.2.t 0))).bind fun x3 =>
     (asRows ((nth x0.2.t 1))).bind fun x4 =>
     (asInt .i64 ((nth x0.2.t 2))).bind fun x5 =>
     (asBox ((nth x0.2.t 6))).bind fun x6 =>
     (uncons x6).bind fun x7 =>
     (asInt .i64 (x7.1)).bind fun x8 =>
     (uncons x7.2).bind fun x9 =>
     (asInt .i64 (x9.1)).bind fun x10 =>
     (isNil x9.2).bind fun x11 =>
     (asInt .i64 ((nth x0.2.t 8))).bind fun x12 =>
     (asInt .i64 ((nth x0.2.t 9))).bind fun x13 =>
     (asBool ((nth x0.2.t 10))).bind fun x14 =>
     (asInt .i64 ((nth x0.2.t 11))).bind fun x15 =>
     cond (!x14) (
      some (.tuple [.agg [.int .i64 0, .int .i64 0], .bool false], [])) (
      (C.p (.func 43) [.int .i64 x12, .int .i64 x13]).bind fun x16 =>
      (asCells (x16)).bind fun x17 =>
      (uncons x17).bind fun x18 =>
      (asInt .i64 (x18.1)).bind fun x19 =>
      (uncons x18.2).bind fun x20 =>
      (asInt .i64 (x20.1)).bind fun x21 =>
      (isNil x20.2).bind fun x22 =>
      some (.tuple [.agg [.int .i64 x19, .int .i64 x21], .bool true], []))) (
     none)
  | .ret =>
    none := by kernel_rfl

theorem e88 (C : CallT) (n0 : Int) (n1 : Int) : run1 Go.Ab.G20 Go.Ab.L20 C (.func 88) [.agg [.int .i64 n0, .int .i64 n1]] [] =
  some (.agg [.int .i64 (Go.IntKind.wrap .i64 (0 - n1)), .int .i64 (Go.IntKind.wrap .i64 (0 - n0))], []) := by kernel_rfl

theorem e70 (C : CallT) (n0 : Int) (n1 : Int) (n2 : Int) (n3 : Int) : run1 Go.Ab.G20 Go.Ab.L20 C (.func 70) [.agg [.int .i64 n0, .int .i64 n1], .agg [.int .i64 n2, .int .i64 n3]] [] =
  (C.p (.func 88) [.agg [.int .i64 n2, .int .i64 n3]]).bind fun x0 =>
  (asCells (x0)).bind fun x1 =>
  (uncons x1).bind fun x2 =>
  (asInt .i64 (x2.1)).bind fun x3 =>
  (uncons x2.2).bind fun x4 =>
  (asInt .i64 (x4.1)).bind fun x5 =>
  (isNil x4.2).bind fun x6 =>
  (C.p (.func 68) [.agg [.int .i64 n0, .int .i64 n1], .agg [.int .i64 x3, .int .i64 x5]]).bind fun x7 =>
  (asCells (x7)).bind fun x8 =>
  (uncons x8).bind fun x9 =>
  (asInt .i64 (x9.1)).bind fun x10 =>
  (uncons x9.2).bind fun x11 =>
  (asInt .i64 (x11.1)).bind fun x12 =>
  (isNil x11.2).bind fun x13 =>
  some (.agg [.int .i64 x10, .int .i64 x12], []) := by kernel_rfl

theorem e87 (C : CallT) (n0 : Int) (n1 : Int) : run1 Go.Ab.G20 Go.Ab.L20 C (.func 87) [.agg [.int .i64 n0, .int .i64 n1]] [] =
  some (.int .i64 (if (Go.IntKind.wrap .i64 (0 - n0)) > n1 then (Go.IntKind.wrap .i64 (0 - n0)) else n1), []) := by kernel_rfl

theorem e91 (C : CallT) (n0 : Int) : run1 Go.Ab.G20 Go.Ab.L20 C (.func 91) [.int .i64 n0] [] =
  some (.int .i64 (if 1 < n0 then 1 else n0), []) := by kernel_rfl

theorem p90 (C : CallT) (n0 : Int) (n1 : Int) : run1 Go.Ab.G20 Go.Ab.L20 C (.func 90) [.int .i64 n0, .int .i64 n1, .fn (.func 91) [] []] [] =
  cond (n1 == 0) (
   none) (
   cond (n1 == 0) (
    none) (
    cond (decide ((Int.tmod n0 n1) < 0)) (
     (C.p (.func 91) [.int .i64 (Go.IntKind.wrap .i64 ((Int.tmod n0 n1) + n1))]).bind fun x2 =>
     (asInt .i64 (x2)).bind fun x3 =>
     some (.tuple [.int .i64 (Go.IntKind.wrap .i64 ((Go.IntKind.wrap .i64 (Int.tdiv n0 n1)) - 1)), .int .i64 (Go.IntKind.wrap .i64 ((Go.IntKind.wrap .i64 ((Go.IntKind.wrap .i64 (Int.tdiv n0 n1)) - 1)) + x3))], [])) (
     (C.p (.func 91) [.int .i64 (Int.tmod n0 n1)]).bind fun x0 =>
     (asInt .i64 (x0)).bind fun x1 =>
     some (.tuple [.int .i64 (Go.IntKind.wrap .i64 (Int.tdiv n0 n1)), .int .i64 (Go.IntKind.wrap .i64 ((Go.IntKind.wrap .i64 (Int.tdiv n0 n1)) + x1))], [])))) := by kernel_rfl

theorem e75 (C : CallT) (n0 : Int) (n1 : Int) : run1 Go.Ab.G20 Go.Ab.L20 C (.func 75) [.int .i64 n0, .int .i64 n1] [] =
  cond (decide (n1 < 0)) (
   (C.p (.func 90) [.int .i64 (Go.IntKind.wrap .i64 (0 - n0)), .int .i64 (Go.IntKind.wrap .i64 (0 - n1)), .fn (.func 91) [] []]).bind fun x7 =>
   (asTuple (x7)).bind fun x8 =>
   (uncons x8).bind fun x9 =>
   (asInt .i64 (x9.1)).bind fun x10 =>
   (uncons x9.2).bind fun x11 =>
   (asInt .i64 (x11.1)).bind fun x12 =>
   (isNil x11.2).bind fun x13 =>
   some (.tuple [.int .i64 x10, .int .i64 x12], [])) (
   (C.p (.func 90) [.int .i64 n0, .int .i64 n1, .fn (.func 91) [] []]).bind fun x0 =>
   (asTuple (x0)).bind fun x1 =>
   (uncons x1).bind fun x2 =>
   (asInt .i64 (x2.1)).bind fun x3 =>
   (uncons x2.2).bind fun x4 =>
   (asInt .i64 (x4.1)).bind fun x5 =>
   (isNil x4.2).bind fun x6 =>
   some (.tuple [.int .i64 x3, .int .i64 x5], [])) := by kernel_rfl

theorem e45 (C : CallT) (n0 : Int) (n1 : Int) : run1 Go.Ab.G20 Go.Ab.L20 C (.func 45) [.int .i64 n0, .int .i64 n1] [] =
  (C.p (.func 75) [.int .i64 (Go.IntKind.wrap .i64 (n0 * n1)), .int .i64 65536]).bind fun x0 =>
  (asTuple (x0)).bind fun x1 =>
  (uncons x1).bind fun x2 =>
  (asInt .i64 (x2.1)).bind fun x3 =>
  (uncons x2.2).bind fun x4 =>
  (asInt .i64 (x4.1)).bind fun x5 =>
  (isNil x4.2).bind fun x6 =>
  some (.tuple [.int .i64 x3, .int .i64 x5], []) := by kernel_rfl

theorem e69 (C : CallT) (n0 : Int) (n1 : Int) : run1 Go.Ab.G20 Go.Ab.L20 C (.func 69) [.agg [.int .i64 n0, .int .i64 n1]] [] =
  (C.p (.func 46) [.agg [.int .i64 n0, .int .i64 n1]]).bind fun x0 =>
  (asBool (x0)).bind fun x1 =>
  cond x1 (
   some (.agg [.int .i64 n0, .int .i64 n1], [])) (
   (C.p (.func 87) [.agg [.int .i64 n0, .int .i64 n1]]).bind fun x2 =>
   (asInt .i64 (x2)).bind fun x3 =>
   (C.p (.func 45) [.int .i64 (if 0 > (if (Go.IntKind.wrap .i64 (0 - n1)) > n0 then (Go.IntKind.wrap .i64 (0 - n1)) else n0) then 0 else (if (Go.IntKind.wrap .i64 (0 - n1)) > n0 then (Go.IntKind.wrap .i64 (0 - n1)) else n0)), .int .i64 (if 0 > (if (Go.IntKind.wrap .i64 (0 - n1)) > n0 then (Go.IntKind.wrap .i64 (0 - n1)) else n0) then 0 else (if (Go.IntKind.wrap .i64 (0 - n1)) > n0 then (Go.IntKind.wrap .i64 (0 - n1)) else n0))]).bind fun x4 =>
   (asTuple (x4)).bind fun x5 =>
   (uncons x5).bind fun x6 =>
   (asInt .i64 (x6.1)).bind fun x7 =>
   (uncons x6.2).bind fun x8 =>
   (asInt .i64 (x8.1)).bind fun x9 =>
   (isNil x8.2).bind fun x10 =>
   (C.p (.func 45) [.int .i64 x3, .int .i64 x3]).bind fun x11 =>
   (asTuple (x11)).bind fun x12 =>
   (uncons x12).bind fun x13 =>
   (asInt .i64 (x13.1)).bind fun x14 =>
   (uncons x13.2).bind fun x15 =>
   (asInt .i64 (x15.1)).bind fun x16 =>
   (isNil x15.2).bind fun x17 =>
   (C.p (.func 36) [.int .i64 x7, .int .i64 x16]).bind fun x18 =>
   (asCells (x18)).bind fun x19 =>
   (uncons x19).bind fun x20 =>
   (asInt .i64 (x20.1)).bind fun x21 =>
   (uncons x20.2).bind fun x22 =>
   (asInt .i64 (x22.1)).bind fun x23 =>
   (isNil x22.2).bind fun x24 =>
   some (.agg [.int .i64 x21, .int .i64 x23], [])) := by kernel_rfl

theorem e68 (C : CallT) (n0 : Int) (n1 : Int) (n2 : Int) (n3 : Int) : run1 Go.Ab.G20 Go.Ab.L20 C (.func 68) [.agg [.int .i64 n0, .int .i64 n1], .agg [.int .i64 n2, .int .i64 n3]] [] =
  (C.p (.func 46) [.agg [.int .i64 n0, .int .i64 n1]]).bind fun x0 =>
  (asBool (x0)).bind fun x1 =>
  cond x1 (
   (C.p (.func 63) []).bind fun x18 =>
   (asCells (x18)).bind fun x19 =>
   (uncons x19).bind fun x20 =>
   (asInt .i64 (x20.1)).bind fun x21 =>
   (uncons x20.2).bind fun x22 =>
   (asInt .i64 (x22.1)).bind fun x23 =>
   (isNil x22.2).bind fun x24 =>
   some (.agg [.int .i64 x21, .int .i64 x23], [])) (
   (C.p (.func 46) [.agg [.int .i64 n2, .int .i64 n3]]).bind fun x2 =>
   (asBool (x2)).bind fun x3 =>
   cond x3 (
    (C.p (.func 63) []).bind fun x11 =>
    (asCells (x11)).bind fun x12 =>
    (uncons x12).bind fun x13 =>
    (asInt .i64 (x13.1)).bind fun x14 =>
    (uncons x13.2).bind fun x15 =>
    (asInt .i64 (x15.1)).bind fun x16 =>
    (isNil x15.2).bind fun x17 =>
    some (.agg [.int .i64 x14, .int .i64 x16], [])) (
    (C.p (.func 36) [.int .i64 (Go.IntKind.wrap .i64 (n0 + n2)), .int .i64 (Go.IntKind.wrap .i64 (n1 + n3))]).bind fun x4 =>
    (asCells (x4)).bind fun x5 =>
    (uncons x5).bind fun x6 =>
    (asInt .i64 (x6.1)).bind fun x7 =>
    (uncons x6.2).bind fun x8 =>
    (asInt .i64 (x8.1)).bind fun x9 =>
    (isNil x8.2).bind fun x10 =>
    some (.agg [.int .i64 x7, .int .i64 x9], []))) := by kernel_rfl

theorem y41_5 (C : CallT) (n0 : Int) (n1 : Int) (r2 : List (List V)) (r3 : List (List V)) (r4 : List (List V)) (r5 : List (List V)) (r6 : List (List V)) (r7 : List (List V)) (n8 : Int) (n9 : Int) (n10 : Int) (n11 : Int) : run1 Go.Ab.G20 Go.Ab.L20 C (.yield 3) [.agg [.int .i64 n8, .int .i64 n9], .agg [.int .i64 n10, .int .i64 n11]] [.cells [.int .i64 n0, .int .i64 n1], .cells [.slice .any r2], .cells [.slice .any r3], .loop ⟨.ready, none, (sp 0 20 [(0, .slice .any r4), (1, .slice .any r5), (5, .ptr 0 0), (8, .slice .any r6), (9, .slice .any r7), (10, .fn (.func 86) [] [.ptr 1 0, .ptr 2 0])]), 41, [11, 12], rangeAssign GP 41 5, rangeBody GP 41 5⟩] =
  (C.p (.func 70) [.agg [.int .i64 n8, .int .i64 n9], .agg [.int .i64 n10, .int .i64 n11]]).bind fun x0 =>
  (asCells (x0)).bind fun x1 =>
  (uncons x1).bind fun x2 =>
  (asInt .i64 (x2.1)).bind fun x3 =>
  (uncons x2.2).bind fun x4 =>
  (asInt .i64 (x4.1)).bind fun x5 =>
  (isNil x4.2).bind fun x6 =>
  (C.p (.func 69) [.agg [.int .i64 x3, .int .i64 x5]]).bind fun x7 =>
  (asCells (x7)).bind fun x8 =>
  (uncons x8).bind fun x9 =>
  (asInt .i64 (x9.1)).bind fun x10 =>
  (uncons x9.2).bind fun x11 =>
  (asInt .i64 (x11.1)).bind fun x12 =>
  (isNil x11.2).bind fun x13 =>
  (C.p (.func 68) [.agg [.int .i64 n0, .int .i64 n1], .agg [.int .i64 x10, .int .i64 x12]]).bind fun x14 =>
  (asCells (x14)).bind fun x15 =>
  (uncons x15).bind fun x16 =>
  (asInt .i64 (x16.1)).bind fun x17 =>
  (uncons x16.2).bind fun x18 =>
  (asInt .i64 (x18.1)).bind fun x19 =>
  (isNil x18.2).bind fun x20 =>
  some (.bool true, [.cells [.int .i64 x17, .int .i64 x19], .cells [.slice .any r2], .cells [.slice .any r3], .loop ⟨.ready, none, (sp 0 20 [(0, .slice .any r4), (1, .slice .any r5), (5, .ptr 0 0), (8, .slice .any r6), (9, .slice .any r7), (10, .fn (.func 86) [] [.ptr 1 0, .ptr 2 0])]), 41, [11, 12], rangeAssign GP 41 5, rangeBody GP 41 5⟩]) := by kernel_rfl

theorem e86_1 (C : CallT) (n0 : Int) (n1 : Int) (r2 : List (List V)) (r3 : List (List V)) (l4 : LoopA) (r5 : List (List V)) (n6 : Int) (n7 : Int) : roundK Go.Ab.G20 Go.Ab.L20 C 86 none 1 ⟨(sp 0 22 [(0, .fn (.yield 3) [] []), (2, .ptr 2 0), (6, .slice .any r5), (7, .int .i64 n6), (8, .int .i64 n7)]), [.cells [.int .i64 n0, .int .i64 n1], .cells [.slice .any r2], .cells [.slice .any r3], .loop l4]⟩ =
  cond (decide (n7 < n6)) (
   (getRow r5 n7 2).bind fun x0 =>
   (uncons x0).bind fun x1 =>
   (asInt .i64 (x1.1)).bind fun x2 =>
   (uncons x1.2).bind fun x3 =>
   (asInt .i64 (x3.1)).bind fun x4 =>
   (isNil x3.2).bind fun x5 =>
   (getRow r3 n7 2).bind fun x6 =>
   (uncons x6).bind fun x7 =>
   (asInt .i64 (x7.1)).bind fun x8 =>
   (uncons x7.2).bind fun x9 =>
   (asInt .i64 (x9.1)).bind fun x10 =>
   (isNil x9.2).bind fun x11 =>
   (C.s (.yield 3) [.agg [.int .i64 x2, .int .i64 x4], .agg [.int .i64 x8, .int .i64 x10]] [.cells [.int .i64 n0, .int .i64 n1], .cells [.slice .any r2], .cells [.slice .any r3], .loop l4]).bind fun x12 =>
   (asBool (x12.1)).bind fun x13 =>
   (unconsO x12.2).bind fun x14 =>
   (asObCells x14.1).bind fun x15 =>
   (uncons x15).bind fun x16 =>
   (asInt .i64 (x16.1)).bind fun x17 =>
   (uncons x16.2).bind fun x18 =>
   (asInt .i64 (x18.1)).bind fun x19 =>
   (isNil x18.2).bind fun x20 =>
   (unconsO x14.2).bind fun x21 =>
   (asObCells x21.1).bind fun x22 =>
   (uncons x22).bind fun x23 =>
   (asRows (x23.1)).bind fun x24 =>
   (isNil x23.2).bind fun x25 =>
   (unconsO x21.2).bind fun x26 =>
   (asObCells x26.1).bind fun x27 =>
   (uncons x27).bind fun x28 =>
   (asRows (x28.1)).bind fun x29 =>
   (isNil x28.2).bind fun x30 =>
   (unconsO x26.2).bind fun x31 =>
   (asLoop x31.1).bind fun x32 =>
   cond (!x13) (
    some (.ret, ⟨(sp 0 22 [(0, .fn (.yield 3) [] []), (2, .ptr 2 0), (6, .slice .any r5), (7, .int .i64 n6), (8, .int .i64 n7)]), [.cells [.int .i64 x17, .int .i64 x19], .cells [.slice .any x24], .cells [.slice .any x29], .loop x32]⟩)) (
    some (.normal, ⟨(sp 0 22 [(0, .fn (.yield 3) [] []), (2, .ptr 2 0), (6, .slice .any r5), (7, .int .i64 n6), (8, .int .i64 (Go.IntKind.wrap .i64 (n7 + 1)))]), [.cells [.int .i64 x17, .int .i64 x19], .cells [.slice .any x24], .cells [.slice .any x29], .loop x32]⟩))) (
   some ((.exit 0), ⟨(sp 0 22 [(0, .fn (.yield 3) [] []), (2, .ptr 2 0), (6, .slice .any r5), (7, .int .i64 n6), (8, .int .i64 n7)]), [.cells [.int .i64 n0, .int .i64 n1], .cells [.slice .any r2], .cells [.slice .any r3], .loop l4]⟩)) := by kernel_rfl

theorem s86 (C : CallT) (n0 : Int) (n1 : Int) (r2 : List (List V)) (r3 : List (List V)) (l4 : LoopA) : run1 Go.Ab.G20 Go.Ab.L20 C (.func 86) [.fn (.yield 3) [] [], .ptr 1 0, .ptr 2 0] [.cells [.int .i64 n0, .int .i64 n1], .cells [.slice .any r2], .cells [.slice .any r3], .loop l4] =
  (C.w (roundK Go.Ab.G20 Go.Ab.L20 C 86 none 1) ⟨(sp 0 22 [(0, .fn (.yield 3) [] []), (2, .ptr 2 0), (6, .slice .any r2), (7, .int .i64 ((r2.length : Nat) : Int)), (8, .int .i64 0)]), [.cells [.int .i64 n0, .int .i64 n1], .cells [.slice .any r2], .cells [.slice .any r3], .loop l4]⟩).bind fun x0 =>
  match x0.1 with
  | .normal =>
    none
  | .exit x2 =>
    cond (Nat.beq x2 0) (
     (asFn (.yield 3) ((nth x0.2.t 0))).bind fun x3 =>
     (isNil x3.1).bind fun x4 =>
     (isNil x3.2).bind fun x5 =>
     (asPtr 2 0 ((nth x0.2.t 2))).bind fun x6 =>
     (asRows ((nth x0.2.t 6))).bind fun x7 =>
     (asInt .i64 ((nth x0.2.t 7))).bind fun x8 =>
     (asInt .i64 ((nth x0.2.t 8))).bind fun x9 =>
     (unconsO x0.2.h).bind fun x10 =>
     (asObCells x10.1).bind fun x11 =>
     (uncons x11).bind fun x12 =>
     (asInt .i64 (x12.1)).bind fun x13 =>
     (uncons x12.2).bind fun x14 =>
     (asInt .i64 (x14.1)).bind fun x15 =>
     (isNil x14.2).bind fun x16 =>
     (unconsO x10.2).bind fun x17 =>
     (asObCells x17.1).bind fun x18 =>
     (uncons x18).bind fun x19 =>
     (asRows (x19.1)).bind fun x20 =>
     (isNil x19.2).bind fun x21 =>
     (unconsO x17.2).bind fun x22 =>
     (asObCells x22.1).bind fun x23 =>
     (uncons x23).bind fun x24 =>
     (asRows (x24.1)).bind fun x25 =>
     (isNil x24.2).bind fun x26 =>
     (unconsO x22.2).bind fun x27 =>
     (asLoop x27.1).bind fun x28 =>
     some (.tuple [], [.cells [.int .i64 x13, .int .i64 x15], .cells [.slice .any x20], .cells [.slice .any x25], .loop x28])) (
     none)
  | .ret =>
    (asFn (.yield 3) ((nth x0.2.t 0))).bind fun x29 =>
    (isNil x29.1).bind fun x30 =>
    (isNil x29.2).bind fun x31 =>
    (asPtr 2 0 ((nth x0.2.t 2))).bind fun x32 =>
    (asRows ((nth x0.2.t 6))).bind fun x33 =>
    (asInt .i64 ((nth x0.2.t 7))).bind fun x34 =>
    (asInt .i64 ((nth x0.2.t 8))).bind fun x35 =>
    (unconsO x0.2.h).bind fun x36 =>
    (asObCells x36.1).bind fun x37 =>
    (uncons x37).bind fun x38 =>
    (asInt .i64 (x38.1)).bind fun x39 =>
    (uncons x38.2).bind fun x40 =>
    (asInt .i64 (x40.1)).bind fun x41 =>
    (isNil x40.2).bind fun x42 =>
    (unconsO x36.2).bind fun x43 =>
    (asObCells x43.1).bind fun x44 =>
    (uncons x44).bind fun x45 =>
    (asRows (x45.1)).bind fun x46 =>
    (isNil x45.2).bind fun x47 =>
    (unconsO x43.2).bind fun x48 =>
    (asObCells x48.1).bind fun x49 =>
    (uncons x49).bind fun x50 =>
    (asRows (x50.1)).bind fun x51 =>
    (isNil x50.2).bind fun x52 =>
    (unconsO x48.2).bind fun x53 =>
    (asLoop x53.1).bind fun x54 =>
    some (.tuple [], [.cells [.int .i64 x39, .int .i64 x41], .cells [.slice .any x46], .cells [.slice .any x51], .loop x54]) := by kernel_rfl

theorem s67 (C : CallT) (n0 : Int) (n1 : Int) (r2 : List (List V)) (r3 : List (List V)) : run1 Go.Ab.G20 Go.Ab.L20 C (.func 67) [.slice .any r2, .slice .any r3] [.cells [.int .i64 n0, .int .i64 n1]] =
  some (.fn (.func 86) [] [.ptr 1 0, .ptr 2 0], [.cells [.int .i64 n0, .int .i64 n1], .cells [.slice .any r2], .cells [.slice .any r3]]) := by kernel_rfl

theorem e41 (C : CallT) (r0 : List (List V)) (r1 : List (List V)) : run1 Go.Ab.G20 Go.Ab.L20 C (.func 41) [.slice .any r0, .slice .any r1] [] =
  (C.s (.func 67) [.slice .any r0, .slice .any r1] [.cells [.int .i64 0, .int .i64 0]]).bind fun x0 =>
  (asFn (.func 86) (x0.1)).bind fun x1 =>
  (isNil x1.1).bind fun x2 =>
  (uncons x1.2).bind fun x3 =>
  (asPtr 1 0 (x3.1)).bind fun x4 =>
  (uncons x3.2).bind fun x5 =>
  (asPtr 2 0 (x5.1)).bind fun x6 =>
  (isNil x5.2).bind fun x7 =>
  (unconsO x0.2).bind fun x8 =>
  (asObCells x8.1).bind fun x9 =>
  (uncons x9).bind fun x10 =>
  (asInt .i64 (x10.1)).bind fun x11 =>
  (uncons x10.2).bind fun x12 =>
  (asInt .i64 (x12.1)).bind fun x13 =>
  (isNil x12.2).bind fun x14 =>
  (unconsO x8.2).bind fun x15 =>
  (asObCells x15.1).bind fun x16 =>
  (uncons x16).bind fun x17 =>
  (asRows (x17.1)).bind fun x18 =>
  (isNil x17.2).bind fun x19 =>
  (unconsO x15.2).bind fun x20 =>
  (asObCells x20.1).bind fun x21 =>
  (uncons x21).bind fun x22 =>
  (asRows (x22.1)).bind fun x23 =>
  (isNil x22.2).bind fun x24 =>
  (C.s (.func 86) [.fn (.yield 3) [] [], .ptr 1 0, .ptr 2 0] [.cells [.int .i64 x11, .int .i64 x13], .cells [.slice .any x18], .cells [.slice .any x23], .loop ⟨.ready, none, (sp 0 20 [(0, .slice .any r0), (1, .slice .any r1), (5, .ptr 0 0), (8, .slice .any r0), (9, .slice .any r1), (10, .fn (.func 86) [] [.ptr 1 0, .ptr 2 0])]), 41, [11, 12], rangeAssign GP 41 5, rangeBody GP 41 5⟩]).bind fun x25 =>
  (unconsO x25.2).bind fun x26 =>
  (asObCells x26.1).bind fun x27 =>
  (uncons x27).bind fun x28 =>
  (asInt .i64 (x28.1)).bind fun x29 =>
  (uncons x28.2).bind fun x30 =>
  (asInt .i64 (x30.1)).bind fun x31 =>
  (isNil x30.2).bind fun x32 =>
  (unconsO x26.2).bind fun x33 =>
  (asObCells x33.1).bind fun x34 =>
  (uncons x34).bind fun x35 =>
  (asRows (x35.1)).bind fun x36 =>
  (isNil x35.2).bind fun x37 =>
  (unconsO x33.2).bind fun x38 =>
  (asObCells x38.1).bind fun x39 =>
  (uncons x39).bind fun x40 =>
  (asRows (x40.1)).bind fun x41 =>
  (isNil x40.2).bind fun x42 =>
  (unconsO x38.2).bind fun x43 =>
  (asLoop x43.1).bind fun x44 =>
  (endOf x44).bind fun x45 =>
  match x45 with
  | none =>
    some (.agg [.int .i64 x29, .int .i64 x31], [.cells [.int .i64 x29, .int .i64 x31], .cells [.slice .any x36], .cells [.slice .any x41]])
  | some x46 =>
    match x46 with
    | .normal =>
      none
    | .exit x48 =>
      none
    | .ret =>
      none := by kernel_rfl

end Go.Ab
