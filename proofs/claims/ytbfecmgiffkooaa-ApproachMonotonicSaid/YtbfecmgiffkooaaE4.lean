/- What one call of each function does, written out: by evaluation; conditions: none. -/
import Derived.KernelRfl
import Derived.Test.YtbfecmgiffkooaaT20
namespace Go.Ab
set_option linter.unusedVariables false
set_option linter.unusedSimpArgs false
set_option linter.unusedVariables false
set_option linter.unusedSimpArgs false
set_option linter.unusedVariables false
set_option maxHeartbeats 2000000
theorem e11 (C : CallT)  : run1 Go.Ab.G20 Go.Ab.L20 C (.func 11) [] [] =
  (C.p (.func 32) [.int .i64 0, .int .i64 2, .int .i64 0, .int .i64 1]).bind fun x0 =>
  (asRows (x0)).bind fun x1 =>
  (C.p (.func 32) [.int .i64 1, .int .i64 5, .int .i64 3, .int .i64 4]).bind fun x2 =>
  (asRows (x2)).bind fun x3 =>
  (C.p (.func 13) [.slice .any x1, .slice .any x3]).bind fun x4 =>
  (asTuple (x4)).bind fun x5 =>
  (uncons x5).bind fun x6 =>
  (asCells (x6.1)).bind fun x7 =>
  (uncons x7).bind fun x8 =>
  (asInt .i64 (x8.1)).bind fun x9 =>
  (uncons x8.2).bind fun x10 =>
  (asInt .i64 (x10.1)).bind fun x11 =>
  (isNil x10.2).bind fun x12 =>
  (uncons x6.2).bind fun x13 =>
  (asBool (x13.1)).bind fun x14 =>
  (isNil x13.2).bind fun x15 =>
  (C.p (.func 15) [.slice .any x1, .slice .any x3, .int .i64 1]).bind fun x16 =>
  (asTuple (x16)).bind fun x17 =>
  (uncons x17).bind fun x18 =>
  (asCells (x18.1)).bind fun x19 =>
  (uncons x19).bind fun x20 =>
  (asInt .i64 (x20.1)).bind fun x21 =>
  (uncons x20.2).bind fun x22 =>
  (asInt .i64 (x22.1)).bind fun x23 =>
  (isNil x22.2).bind fun x24 =>
  (uncons x18.2).bind fun x25 =>
  (asBool (x25.1)).bind fun x26 =>
  (isNil x25.2).bind fun x27 =>
  (C.p (.func 33) [.int .i64 3]).bind fun x28 =>
  (asCells (x28)).bind fun x29 =>
  (uncons x29).bind fun x30 =>
  (asInt .i64 (x30.1)).bind fun x31 =>
  (uncons x30.2).bind fun x32 =>
  (asInt .i64 (x32.1)).bind fun x33 =>
  (isNil x32.2).bind fun x34 =>
  (C.p (.func 21) [.slice .any x1, .slice .any x3, .agg [.int .i64 x31, .int .i64 x33]]).bind fun x35 =>
  (asRows (x35)).bind fun x36 =>
  (C.p (.func 32) [.int .i64 0, .int .i64 2, .int .i64 30000, .int .i64 30001]).bind fun x37 =>
  (asRows (x37)).bind fun x38 =>
  (C.p (.func 32) [.int .i64 3, .int .i64 4, .int .i64 0, .int .i64 1]).bind fun x39 =>
  (asRows (x39)).bind fun x40 =>
  (C.p (.func 15) [.slice .any x1, .slice .any x38, .int .i64 1]).bind fun x41 =>
  (asTuple (x41)).bind fun x42 =>
  (uncons x42).bind fun x43 =>
  (asCells (x43.1)).bind fun x44 =>
  (uncons x44).bind fun x45 =>
  (asInt .i64 (x45.1)).bind fun x46 =>
  (uncons x45.2).bind fun x47 =>
  (asInt .i64 (x47.1)).bind fun x48 =>
  (isNil x47.2).bind fun x49 =>
  (uncons x43.2).bind fun x50 =>
  (asBool (x50.1)).bind fun x51 =>
  (isNil x50.2).bind fun x52 =>
  (C.p (.func 13) [.slice .any x1, .slice .any x40]).bind fun x53 =>
  (asTuple (x53)).bind fun x54 =>
  (uncons x54).bind fun x55 =>
  (asCells (x55.1)).bind fun x56 =>
  (uncons x56).bind fun x57 =>
  (asInt .i64 (x57.1)).bind fun x58 =>
  (uncons x57.2).bind fun x59 =>
  (asInt .i64 (x59.1)).bind fun x60 =>
  (isNil x59.2).bind fun x61 =>
  (uncons x55.2).bind fun x62 =>
  (asBool (x62.1)).bind fun x63 =>
  (isNil x62.2).bind fun x64 =>
  (C.p (.func 15) [.slice .any x1, .slice .any x40, .int .i64 1]).bind fun x65 =>
  (asTuple (x65)).bind fun x66 =>
  (uncons x66).bind fun x67 =>
  (asCells (x67.1)).bind fun x68 =>
  (uncons x68).bind fun x69 =>
  (asInt .i64 (x69.1)).bind fun x70 =>
  (uncons x69.2).bind fun x71 =>
  (asInt .i64 (x71.1)).bind fun x72 =>
  (isNil x71.2).bind fun x73 =>
  (uncons x67.2).bind fun x74 =>
  (asBool (x74.1)).bind fun x75 =>
  (isNil x74.2).bind fun x76 =>
  cond (((x36.length : Nat) : Int) != 1) (
   some (.bool false, [])) (
   cond x14 (
    (C.p (.func 34) [.agg [.int .i64 x9, .int .i64 x11], .int .i64 1, .int .i64 2]).bind fun x77 =>
    (asBool (x77)).bind fun x78 =>
    cond x78 (
     cond x26 (
      (C.p (.func 34) [.agg [.int .i64 x21, .int .i64 x23], .int .i64 4, .int .i64 16]).bind fun x79 =>
      (asBool (x79)).bind fun x80 =>
      cond x80 (
       (getRow x36 0 2).bind fun x81 =>
       (uncons x81).bind fun x82 =>
       (asInt .i64 (x82.1)).bind fun x83 =>
       (uncons x82.2).bind fun x84 =>
       (asInt .i64 (x84.1)).bind fun x85 =>
       (isNil x84.2).bind fun x86 =>
       (C.p (.func 34) [.agg [.int .i64 x83, .int .i64 x85], .int .i64 1, .int .i64 2]).bind fun x87 =>
       (asBool (x87)).bind fun x88 =>
       cond x88 (
        (C.p (.func 33) [.int .i64 1]).bind fun x89 =>
        (asCells (x89)).bind fun x90 =>
        (uncons x90).bind fun x91 =>
        (asInt .i64 (x91.1)).bind fun x92 =>
        (uncons x91.2).bind fun x93 =>
        (asInt .i64 (x93.1)).bind fun x94 =>
        (isNil x93.2).bind fun x95 =>
        (C.p (.func 18) [.slice .any x1, .slice .any x3, .agg [.int .i64 x92, .int .i64 x94]]).bind fun x96 =>
        (asInt .i64 (x96)).bind fun x97 =>
        cond (x97 == 1) (
         (C.p (.func 33) [.int .i64 3]).bind fun x98 =>
         (asCells (x98)).bind fun x99 =>
         (uncons x99).bind fun x100 =>
         (asInt .i64 (x100.1)).bind fun x101 =>
         (uncons x100.2).bind fun x102 =>
         (asInt .i64 (x102.1)).bind fun x103 =>
         (isNil x102.2).bind fun x104 =>
         (C.p (.func 18) [.slice .any x1, .slice .any x3, .agg [.int .i64 x101, .int .i64 x103]]).bind fun x105 =>
         (asInt .i64 (x105)).bind fun x106 =>
         cond (x106 == 0) (
          (C.p (.func 33) [.int .i64 5]).bind fun x107 =>
          (asCells (x107)).bind fun x108 =>
          (uncons x108).bind fun x109 =>
          (asInt .i64 (x109.1)).bind fun x110 =>
          (uncons x109.2).bind fun x111 =>
          (asInt .i64 (x111.1)).bind fun x112 =>
          (isNil x111.2).bind fun x113 =>
          (C.p (.func 18) [.slice .any x1, .slice .any x3, .agg [.int .i64 x110, .int .i64 x112]]).bind fun x114 =>
          (asInt .i64 (x114)).bind fun x115 =>
          cond (x115 == (-1)) (
           (C.p (.func 33) [.int .i64 1]).bind fun x116 =>
           (asCells (x116)).bind fun x117 =>
           (uncons x117).bind fun x118 =>
           (asInt .i64 (x118.1)).bind fun x119 =>
           (uncons x118.2).bind fun x120 =>
           (asInt .i64 (x120.1)).bind fun x121 =>
           (isNil x120.2).bind fun x122 =>
           (C.p (.func 21) [.slice .any x1, .slice .any x3, .agg [.int .i64 x119, .int .i64 x121]]).bind fun x123 =>
           (asRows (x123)).bind fun x124 =>
           cond (((x124.length : Nat) : Int) == 0) (
            cond x51 (
             (C.p (.func 26) [.agg [.int .i64 x46, .int .i64 x48]]).bind fun x125 =>
             (asBool (x125)).bind fun x126 =>
             cond x126 (
              (C.p (.func 33) [.int .i64 20000]).bind fun x127 =>
              (asCells (x127)).bind fun x128 =>
              (uncons x128).bind fun x129 =>
              (asInt .i64 (x129.1)).bind fun x130 =>
              (uncons x129.2).bind fun x131 =>
              (asInt .i64 (x131.1)).bind fun x132 =>
              (isNil x131.2).bind fun x133 =>
              (C.p (.func 18) [.slice .any x1, .slice .any x38, .agg [.int .i64 x130, .int .i64 x132]]).bind fun x134 =>
              (asInt .i64 (x134)).bind fun x135 =>
              cond (x135 == 1) (
               (C.p (.func 33) [.int .i64 30000]).bind fun x136 =>
               (asCells (x136)).bind fun x137 =>
               (uncons x137).bind fun x138 =>
               (asInt .i64 (x138.1)).bind fun x139 =>
               (uncons x138.2).bind fun x140 =>
               (asInt .i64 (x140.1)).bind fun x141 =>
               (isNil x140.2).bind fun x142 =>
               (C.p (.func 18) [.slice .any x1, .slice .any x38, .agg [.int .i64 x139, .int .i64 x141]]).bind fun x143 =>
               (asInt .i64 (x143)).bind fun x144 =>
               cond (x144 == 0) (
                cond (!x63) (
                 cond (!x75) (
                  (C.p (.func 33) [.int .i64 9]).bind fun x145 =>
                  (asCells (x145)).bind fun x146 =>
                  (uncons x146).bind fun x147 =>
                  (asInt .i64 (x147.1)).bind fun x148 =>
                  (uncons x147.2).bind fun x149 =>
                  (asInt .i64 (x149.1)).bind fun x150 =>
                  (isNil x149.2).bind fun x151 =>
                  (C.p (.func 18) [.slice .any x1, .slice .any x40, .agg [.int .i64 x148, .int .i64 x150]]).bind fun x152 =>
                  (asInt .i64 (x152)).bind fun x153 =>
                  cond (x153 == 1) (
                   (C.p (.func 33) [.int .i64 0]).bind fun x154 =>
                   (asCells (x154)).bind fun x155 =>
                   (uncons x155).bind fun x156 =>
                   (asInt .i64 (x156.1)).bind fun x157 =>
                   (uncons x156.2).bind fun x158 =>
                   (asInt .i64 (x158.1)).bind fun x159 =>
                   (isNil x158.2).bind fun x160 =>
                   (C.p (.func 18) [.slice .any [], .slice .any x1, .agg [.int .i64 x157, .int .i64 x159]]).bind fun x161 =>
                   (asInt .i64 (x161)).bind fun x162 =>
                   some (.bool (x162 == 1), [])) (
                   some (.bool false, []))) (
                  some (.bool false, []))) (
                 some (.bool false, []))) (
                some (.bool false, []))) (
               some (.bool false, []))) (
              some (.bool false, []))) (
             some (.bool false, []))) (
            some (.bool false, []))) (
           some (.bool false, []))) (
          some (.bool false, []))) (
         some (.bool false, []))) (
        some (.bool false, []))) (
       some (.bool false, []))) (
      some (.bool false, []))) (
     some (.bool false, []))) (
    some (.bool false, []))) := by kernel_rfl


theorem e3 (C : CallT) (r0 : List (List V)) (r1 : List (List V)) (n2 : Int) (n3 : Int) (n4 : Int) : run1 Go.Ab.G20 Go.Ab.L20 C (.func 3) [.agg [.slice .any r0, .slice .any r1, .int .u8 n2, .int .i64 n3], .int .u8 n4] [] =
  (C.p (.func 11) []).bind fun x0 =>
  (asBool (x0)).bind fun x1 =>
  (C.p (.func 12) [.agg [.slice .any r0, .slice .any r1, .int .u8 n2, .int .i64 n3]]).bind fun x2 =>
  (asTuple (x2)).bind fun x3 =>
  (uncons x3).bind fun x4 =>
  (asRows (x4.1)).bind fun x5 =>
  (uncons x4.2).bind fun x6 =>
  (asRows (x6.1)).bind fun x7 =>
  (uncons x6.2).bind fun x8 =>
  (asCells (x8.1)).bind fun x9 =>
  (uncons x9).bind fun x10 =>
  (asInt .i64 (x10.1)).bind fun x11 =>
  (uncons x10.2).bind fun x12 =>
  (asInt .i64 (x12.1)).bind fun x13 =>
  (isNil x12.2).bind fun x14 =>
  (isNil x8.2).bind fun x15 =>
  cond ((Int.tmod n4 8) == 0) (
   cond (decide ((Int.tmod n4 16) < 2)) (
    (C.p (.func 13) [.slice .any [], .slice .any []]).bind fun x202 =>
    (asTuple (x202)).bind fun x203 =>
    (uncons x203).bind fun x204 =>
    (asCells (x204.1)).bind fun x205 =>
    (uncons x205).bind fun x206 =>
    (asInt .i64 (x206.1)).bind fun x207 =>
    (uncons x206.2).bind fun x208 =>
    (asInt .i64 (x208.1)).bind fun x209 =>
    (isNil x208.2).bind fun x210 =>
    (uncons x204.2).bind fun x211 =>
    (asBool (x211.1)).bind fun x212 =>
    (isNil x211.2).bind fun x213 =>
    (C.p (.func 14) [.slice .any [], .slice .any []]).bind fun x214 =>
    (asTuple (x214)).bind fun x215 =>
    (uncons x215).bind fun x216 =>
    (asCells (x216.1)).bind fun x217 =>
    (uncons x217).bind fun x218 =>
    (asInt .i64 (x218.1)).bind fun x219 =>
    (uncons x218.2).bind fun x220 =>
    (asInt .i64 (x220.1)).bind fun x221 =>
    (isNil x220.2).bind fun x222 =>
    (uncons x216.2).bind fun x223 =>
    (asBool (x223.1)).bind fun x224 =>
    (isNil x223.2).bind fun x225 =>
    (C.p (.func 15) [.slice .any [], .slice .any [], .int .i64 x11]).bind fun x226 =>
    (asTuple (x226)).bind fun x227 =>
    (uncons x227).bind fun x228 =>
    (asCells (x228.1)).bind fun x229 =>
    (uncons x229).bind fun x230 =>
    (asInt .i64 (x230.1)).bind fun x231 =>
    (uncons x230.2).bind fun x232 =>
    (asInt .i64 (x232.1)).bind fun x233 =>
    (isNil x232.2).bind fun x234 =>
    (uncons x228.2).bind fun x235 =>
    (asBool (x235.1)).bind fun x236 =>
    (isNil x235.2).bind fun x237 =>
    (C.p (.func 16) [.slice .any [], .slice .any [], .int .i64 x11]).bind fun x238 =>
    (asTuple (x238)).bind fun x239 =>
    (uncons x239).bind fun x240 =>
    (asCells (x240.1)).bind fun x241 =>
    (uncons x241).bind fun x242 =>
    (asInt .i64 (x242.1)).bind fun x243 =>
    (uncons x242.2).bind fun x244 =>
    (asInt .i64 (x244.1)).bind fun x245 =>
    (isNil x244.2).bind fun x246 =>
    (uncons x240.2).bind fun x247 =>
    (asBool (x247.1)).bind fun x248 =>
    (isNil x247.2).bind fun x249 =>
    (C.p (.func 17) [.agg [.int .i64 x207, .int .i64 x209], .agg [.int .i64 x219, .int .i64 x221]]).bind fun x250 =>
    (asBool (x250)).bind fun x251 =>
    cond x251 (
     cond (x212 == x224) (
      (C.p (.func 17) [.agg [.int .i64 x231, .int .i64 x233], .agg [.int .i64 x243, .int .i64 x245]]).bind fun x252 =>
      (asBool (x252)).bind fun x253 =>
      cond x253 (
       cond (x236 == x248) (
        (C.p (.func 18) [.slice .any [], .slice .any [], .agg [.int .i64 x11, .int .i64 x13]]).bind fun x254 =>
        (asInt .i64 (x254)).bind fun x255 =>
        (C.p (.func 19) [.slice .any [], .slice .any [], .agg [.int .i64 x11, .int .i64 x13]]).bind fun x256 =>
        (asInt .i64 (x256)).bind fun x257 =>
        cond (x255 == x257) (
         (C.p (.func 21) [.slice .any [], .slice .any [], .agg [.int .i64 x11, .int .i64 x13]]).bind fun x258 =>
         (asRows (x258)).bind fun x259 =>
         (C.p (.func 22) [.slice .any [], .slice .any [], .agg [.int .i64 x11, .int .i64 x13]]).bind fun x260 =>
         (asRows (x260)).bind fun x261 =>
         (C.p (.func 20) [.slice .any x259, .slice .any x261]).bind fun x262 =>
         (asBool (x262)).bind fun x263 =>
         cond x263 (
          some (.bool x1, [])) (
          some (.bool false, []))) (
         some (.bool false, []))) (
        some (.bool false, []))) (
       some (.bool false, []))) (
      some (.bool false, []))) (
     some (.bool false, []))) (
    (C.p (.func 13) [.slice .any [], .slice .any x7]).bind fun x140 =>
    (asTuple (x140)).bind fun x141 =>
    (uncons x141).bind fun x142 =>
    (asCells (x142.1)).bind fun x143 =>
    (uncons x143).bind fun x144 =>
    (asInt .i64 (x144.1)).bind fun x145 =>
    (uncons x144.2).bind fun x146 =>
    (asInt .i64 (x146.1)).bind fun x147 =>
    (isNil x146.2).bind fun x148 =>
    (uncons x142.2).bind fun x149 =>
    (asBool (x149.1)).bind fun x150 =>
    (isNil x149.2).bind fun x151 =>
    (C.p (.func 14) [.slice .any [], .slice .any x7]).bind fun x152 =>
    (asTuple (x152)).bind fun x153 =>
    (uncons x153).bind fun x154 =>
    (asCells (x154.1)).bind fun x155 =>
    (uncons x155).bind fun x156 =>
    (asInt .i64 (x156.1)).bind fun x157 =>
    (uncons x156.2).bind fun x158 =>
    (asInt .i64 (x158.1)).bind fun x159 =>
    (isNil x158.2).bind fun x160 =>
    (uncons x154.2).bind fun x161 =>
    (asBool (x161.1)).bind fun x162 =>
    (isNil x161.2).bind fun x163 =>
    (C.p (.func 15) [.slice .any [], .slice .any x7, .int .i64 x11]).bind fun x164 =>
    (asTuple (x164)).bind fun x165 =>
    (uncons x165).bind fun x166 =>
    (asCells (x166.1)).bind fun x167 =>
    (uncons x167).bind fun x168 =>
    (asInt .i64 (x168.1)).bind fun x169 =>
    (uncons x168.2).bind fun x170 =>
    (asInt .i64 (x170.1)).bind fun x171 =>
    (isNil x170.2).bind fun x172 =>
    (uncons x166.2).bind fun x173 =>
    (asBool (x173.1)).bind fun x174 =>
    (isNil x173.2).bind fun x175 =>
    (C.p (.func 16) [.slice .any [], .slice .any x7, .int .i64 x11]).bind fun x176 =>
    (asTuple (x176)).bind fun x177 =>
    (uncons x177).bind fun x178 =>
    (asCells (x178.1)).bind fun x179 =>
    (uncons x179).bind fun x180 =>
    (asInt .i64 (x180.1)).bind fun x181 =>
    (uncons x180.2).bind fun x182 =>
    (asInt .i64 (x182.1)).bind fun x183 =>
    (isNil x182.2).bind fun x184 =>
    (uncons x178.2).bind fun x185 =>
    (asBool (x185.1)).bind fun x186 =>
    (isNil x185.2).bind fun x187 =>
    (C.p (.func 17) [.agg [.int .i64 x145, .int .i64 x147], .agg [.int .i64 x157, .int .i64 x159]]).bind fun x188 =>
    (asBool (x188)).bind fun x189 =>
    cond x189 (
     cond (x150 == x162) (
      (C.p (.func 17) [.agg [.int .i64 x169, .int .i64 x171], .agg [.int .i64 x181, .int .i64 x183]]).bind fun x190 =>
      (asBool (x190)).bind fun x191 =>
      cond x191 (
       cond (x174 == x186) (
        (C.p (.func 18) [.slice .any [], .slice .any x7, .agg [.int .i64 x11, .int .i64 x13]]).bind fun x192 =>
        (asInt .i64 (x192)).bind fun x193 =>
        (C.p (.func 19) [.slice .any [], .slice .any x7, .agg [.int .i64 x11, .int .i64 x13]]).bind fun x194 =>
        (asInt .i64 (x194)).bind fun x195 =>
        cond (x193 == x195) (
         (C.p (.func 21) [.slice .any [], .slice .any x7, .agg [.int .i64 x11, .int .i64 x13]]).bind fun x196 =>
         (asRows (x196)).bind fun x197 =>
         (C.p (.func 22) [.slice .any [], .slice .any x7, .agg [.int .i64 x11, .int .i64 x13]]).bind fun x198 =>
         (asRows (x198)).bind fun x199 =>
         (C.p (.func 20) [.slice .any x197, .slice .any x199]).bind fun x200 =>
         (asBool (x200)).bind fun x201 =>
         cond x201 (
          some (.bool x1, [])) (
          some (.bool false, []))) (
         some (.bool false, []))) (
        some (.bool false, []))) (
       some (.bool false, []))) (
      some (.bool false, []))) (
     some (.bool false, [])))) (
   cond (decide ((Int.tmod n4 16) < 2)) (
    (C.p (.func 13) [.slice .any x5, .slice .any []]).bind fun x78 =>
    (asTuple (x78)).bind fun x79 =>
    (uncons x79).bind fun x80 =>
    (asCells (x80.1)).bind fun x81 =>
    (uncons x81).bind fun x82 =>
    (asInt .i64 (x82.1)).bind fun x83 =>
    (uncons x82.2).bind fun x84 =>
    (asInt .i64 (x84.1)).bind fun x85 =>
    (isNil x84.2).bind fun x86 =>
    (uncons x80.2).bind fun x87 =>
    (asBool (x87.1)).bind fun x88 =>
    (isNil x87.2).bind fun x89 =>
    (C.p (.func 14) [.slice .any x5, .slice .any []]).bind fun x90 =>
    (asTuple (x90)).bind fun x91 =>
    (uncons x91).bind fun x92 =>
    (asCells (x92.1)).bind fun x93 =>
    (uncons x93).bind fun x94 =>
    (asInt .i64 (x94.1)).bind fun x95 =>
    (uncons x94.2).bind fun x96 =>
    (asInt .i64 (x96.1)).bind fun x97 =>
    (isNil x96.2).bind fun x98 =>
    (uncons x92.2).bind fun x99 =>
    (asBool (x99.1)).bind fun x100 =>
    (isNil x99.2).bind fun x101 =>
    (C.p (.func 15) [.slice .any x5, .slice .any [], .int .i64 x11]).bind fun x102 =>
    (asTuple (x102)).bind fun x103 =>
    (uncons x103).bind fun x104 =>
    (asCells (x104.1)).bind fun x105 =>
    (uncons x105).bind fun x106 =>
    (asInt .i64 (x106.1)).bind fun x107 =>
    (uncons x106.2).bind fun x108 =>
    (asInt .i64 (x108.1)).bind fun x109 =>
    (isNil x108.2).bind fun x110 =>
    (uncons x104.2).bind fun x111 =>
    (asBool (x111.1)).bind fun x112 =>
    (isNil x111.2).bind fun x113 =>
    (C.p (.func 16) [.slice .any x5, .slice .any [], .int .i64 x11]).bind fun x114 =>
    (asTuple (x114)).bind fun x115 =>
    (uncons x115).bind fun x116 =>
    (asCells (x116.1)).bind fun x117 =>
    (uncons x117).bind fun x118 =>
    (asInt .i64 (x118.1)).bind fun x119 =>
    (uncons x118.2).bind fun x120 =>
    (asInt .i64 (x120.1)).bind fun x121 =>
    (isNil x120.2).bind fun x122 =>
    (uncons x116.2).bind fun x123 =>
    (asBool (x123.1)).bind fun x124 =>
    (isNil x123.2).bind fun x125 =>
    (C.p (.func 17) [.agg [.int .i64 x83, .int .i64 x85], .agg [.int .i64 x95, .int .i64 x97]]).bind fun x126 =>
    (asBool (x126)).bind fun x127 =>
    cond x127 (
     cond (x88 == x100) (
      (C.p (.func 17) [.agg [.int .i64 x107, .int .i64 x109], .agg [.int .i64 x119, .int .i64 x121]]).bind fun x128 =>
      (asBool (x128)).bind fun x129 =>
      cond x129 (
       cond (x112 == x124) (
        (C.p (.func 18) [.slice .any x5, .slice .any [], .agg [.int .i64 x11, .int .i64 x13]]).bind fun x130 =>
        (asInt .i64 (x130)).bind fun x131 =>
        (C.p (.func 19) [.slice .any x5, .slice .any [], .agg [.int .i64 x11, .int .i64 x13]]).bind fun x132 =>
        (asInt .i64 (x132)).bind fun x133 =>
        cond (x131 == x133) (
         (C.p (.func 21) [.slice .any x5, .slice .any [], .agg [.int .i64 x11, .int .i64 x13]]).bind fun x134 =>
         (asRows (x134)).bind fun x135 =>
         (C.p (.func 22) [.slice .any x5, .slice .any [], .agg [.int .i64 x11, .int .i64 x13]]).bind fun x136 =>
         (asRows (x136)).bind fun x137 =>
         (C.p (.func 20) [.slice .any x135, .slice .any x137]).bind fun x138 =>
         (asBool (x138)).bind fun x139 =>
         cond x139 (
          some (.bool x1, [])) (
          some (.bool false, []))) (
         some (.bool false, []))) (
        some (.bool false, []))) (
       some (.bool false, []))) (
      some (.bool false, []))) (
     some (.bool false, []))) (
    (C.p (.func 13) [.slice .any x5, .slice .any x7]).bind fun x16 =>
    (asTuple (x16)).bind fun x17 =>
    (uncons x17).bind fun x18 =>
    (asCells (x18.1)).bind fun x19 =>
    (uncons x19).bind fun x20 =>
    (asInt .i64 (x20.1)).bind fun x21 =>
    (uncons x20.2).bind fun x22 =>
    (asInt .i64 (x22.1)).bind fun x23 =>
    (isNil x22.2).bind fun x24 =>
    (uncons x18.2).bind fun x25 =>
    (asBool (x25.1)).bind fun x26 =>
    (isNil x25.2).bind fun x27 =>
    (C.p (.func 14) [.slice .any x5, .slice .any x7]).bind fun x28 =>
    (asTuple (x28)).bind fun x29 =>
    (uncons x29).bind fun x30 =>
    (asCells (x30.1)).bind fun x31 =>
    (uncons x31).bind fun x32 =>
    (asInt .i64 (x32.1)).bind fun x33 =>
    (uncons x32.2).bind fun x34 =>
    (asInt .i64 (x34.1)).bind fun x35 =>
    (isNil x34.2).bind fun x36 =>
    (uncons x30.2).bind fun x37 =>
    (asBool (x37.1)).bind fun x38 =>
    (isNil x37.2).bind fun x39 =>
    (C.p (.func 15) [.slice .any x5, .slice .any x7, .int .i64 x11]).bind fun x40 =>
    (asTuple (x40)).bind fun x41 =>
    (uncons x41).bind fun x42 =>
    (asCells (x42.1)).bind fun x43 =>
    (uncons x43).bind fun x44 =>
    (asInt .i64 (x44.1)).bind fun x45 =>
    (uncons x44.2).bind fun x46 =>
    (asInt .i64 (x46.1)).bind fun x47 =>
    (isNil x46.2).bind fun x48 =>
    (uncons x42.2).bind fun x49 =>
    (asBool (x49.1)).bind fun x50 =>
    (isNil x49.2).bind fun x51 =>
    (C.p (.func 16) [.slice .any x5, .slice .any x7, .int .i64 x11]).bind fun x52 =>
    (asTuple (x52)).bind fun x53 =>
    (uncons x53).bind fun x54 =>
    (asCells (x54.1)).bind fun x55 =>
    (uncons x55).bind fun x56 =>
    (asInt .i64 (x56.1)).bind fun x57 =>
    (uncons x56.2).bind fun x58 =>
    (asInt .i64 (x58.1)).bind fun x59 =>
    (isNil x58.2).bind fun x60 =>
    (uncons x54.2).bind fun x61 =>
    (asBool (x61.1)).bind fun x62 =>
    (isNil x61.2).bind fun x63 =>
    (C.p (.func 17) [.agg [.int .i64 x21, .int .i64 x23], .agg [.int .i64 x33, .int .i64 x35]]).bind fun x64 =>
    (asBool (x64)).bind fun x65 =>
    cond x65 (
     cond (x26 == x38) (
      (C.p (.func 17) [.agg [.int .i64 x45, .int .i64 x47], .agg [.int .i64 x57, .int .i64 x59]]).bind fun x66 =>
      (asBool (x66)).bind fun x67 =>
      cond x67 (
       cond (x50 == x62) (
        (C.p (.func 18) [.slice .any x5, .slice .any x7, .agg [.int .i64 x11, .int .i64 x13]]).bind fun x68 =>
        (asInt .i64 (x68)).bind fun x69 =>
        (C.p (.func 19) [.slice .any x5, .slice .any x7, .agg [.int .i64 x11, .int .i64 x13]]).bind fun x70 =>
        (asInt .i64 (x70)).bind fun x71 =>
        cond (x69 == x71) (
         (C.p (.func 21) [.slice .any x5, .slice .any x7, .agg [.int .i64 x11, .int .i64 x13]]).bind fun x72 =>
         (asRows (x72)).bind fun x73 =>
         (C.p (.func 22) [.slice .any x5, .slice .any x7, .agg [.int .i64 x11, .int .i64 x13]]).bind fun x74 =>
         (asRows (x74)).bind fun x75 =>
         (C.p (.func 20) [.slice .any x73, .slice .any x75]).bind fun x76 =>
         (asBool (x76)).bind fun x77 =>
         cond x77 (
          some (.bool x1, [])) (
          some (.bool false, []))) (
         some (.bool false, []))) (
        some (.bool false, []))) (
       some (.bool false, []))) (
      some (.bool false, []))) (
     some (.bool false, [])))) := by kernel_rfl


theorem e6 (C : CallT) (r0 : List (List V)) (r1 : List (List V)) (n2 : Int) (n3 : Int) : run1 Go.Ab.G20 Go.Ab.L20 C (.func 6) [.agg [.slice .any r0, .slice .any r1, .int .u8 n2, .int .i64 n3]] [] =
  (C.p (.func 11) []).bind fun x0 =>
  (asBool (x0)).bind fun x1 =>
  (C.p (.func 12) [.agg [.slice .any r0, .slice .any r1, .int .u8 n2, .int .i64 n3]]).bind fun x2 =>
  (asTuple (x2)).bind fun x3 =>
  (uncons x3).bind fun x4 =>
  (asRows (x4.1)).bind fun x5 =>
  (uncons x4.2).bind fun x6 =>
  (asRows (x6.1)).bind fun x7 =>
  (uncons x6.2).bind fun x8 =>
  (asCells (x8.1)).bind fun x9 =>
  (uncons x9).bind fun x10 =>
  (asInt .i64 (x10.1)).bind fun x11 =>
  (uncons x10.2).bind fun x12 =>
  (asInt .i64 (x12.1)).bind fun x13 =>
  (isNil x12.2).bind fun x14 =>
  (isNil x8.2).bind fun x15 =>
  (C.p (.func 13) [.slice .any x5, .slice .any x7]).bind fun x16 =>
  (asTuple (x16)).bind fun x17 =>
  (uncons x17).bind fun x18 =>
  (asCells (x18.1)).bind fun x19 =>
  (uncons x19).bind fun x20 =>
  (asInt .i64 (x20.1)).bind fun x21 =>
  (uncons x20.2).bind fun x22 =>
  (asInt .i64 (x22.1)).bind fun x23 =>
  (isNil x22.2).bind fun x24 =>
  (uncons x18.2).bind fun x25 =>
  (asBool (x25.1)).bind fun x26 =>
  (isNil x25.2).bind fun x27 =>
  (C.p (.func 13) [.slice .any x7, .slice .any x5]).bind fun x28 =>
  (asTuple (x28)).bind fun x29 =>
  (uncons x29).bind fun x30 =>
  (asCells (x30.1)).bind fun x31 =>
  (uncons x31).bind fun x32 =>
  (asInt .i64 (x32.1)).bind fun x33 =>
  (uncons x32.2).bind fun x34 =>
  (asInt .i64 (x34.1)).bind fun x35 =>
  (isNil x34.2).bind fun x36 =>
  (uncons x30.2).bind fun x37 =>
  (asBool (x37.1)).bind fun x38 =>
  (isNil x37.2).bind fun x39 =>
  (C.p (.func 15) [.slice .any x5, .slice .any x7, .int .i64 x11]).bind fun x40 =>
  (asTuple (x40)).bind fun x41 =>
  (uncons x41).bind fun x42 =>
  (asCells (x42.1)).bind fun x43 =>
  (uncons x43).bind fun x44 =>
  (asInt .i64 (x44.1)).bind fun x45 =>
  (uncons x44.2).bind fun x46 =>
  (asInt .i64 (x46.1)).bind fun x47 =>
  (isNil x46.2).bind fun x48 =>
  (uncons x42.2).bind fun x49 =>
  (asBool (x49.1)).bind fun x50 =>
  (isNil x49.2).bind fun x51 =>
  (C.p (.func 15) [.slice .any x7, .slice .any x5, .int .i64 x11]).bind fun x52 =>
  (asTuple (x52)).bind fun x53 =>
  (uncons x53).bind fun x54 =>
  (asCells (x54.1)).bind fun x55 =>
  (uncons x55).bind fun x56 =>
  (asInt .i64 (x56.1)).bind fun x57 =>
  (uncons x56.2).bind fun x58 =>
  (asInt .i64 (x58.1)).bind fun x59 =>
  (isNil x58.2).bind fun x60 =>
  (uncons x54.2).bind fun x61 =>
  (asBool (x61.1)).bind fun x62 =>
  (isNil x61.2).bind fun x63 =>
  (C.p (.func 17) [.agg [.int .i64 x21, .int .i64 x23], .agg [.int .i64 x33, .int .i64 x35]]).bind fun x64 =>
  (asBool (x64)).bind fun x65 =>
  cond x65 (
   cond (x26 == x38) (
    (C.p (.func 17) [.agg [.int .i64 x45, .int .i64 x47], .agg [.int .i64 x57, .int .i64 x59]]).bind fun x66 =>
    (asBool (x66)).bind fun x67 =>
    cond x67 (
     cond (x50 == x62) (
      (C.p (.func 18) [.slice .any x5, .slice .any x7, .agg [.int .i64 x11, .int .i64 x13]]).bind fun x68 =>
      (asInt .i64 (x68)).bind fun x69 =>
      (C.p (.func 18) [.slice .any x7, .slice .any x5, .agg [.int .i64 x11, .int .i64 x13]]).bind fun x70 =>
      (asInt .i64 (x70)).bind fun x71 =>
      cond (x69 == x71) (
       (C.p (.func 21) [.slice .any x5, .slice .any x7, .agg [.int .i64 x11, .int .i64 x13]]).bind fun x72 =>
       (asRows (x72)).bind fun x73 =>
       (C.p (.func 21) [.slice .any x7, .slice .any x5, .agg [.int .i64 x11, .int .i64 x13]]).bind fun x74 =>
       (asRows (x74)).bind fun x75 =>
       (C.p (.func 20) [.slice .any x73, .slice .any x75]).bind fun x76 =>
       (asBool (x76)).bind fun x77 =>
       cond x77 (
        some (.bool x1, [])) (
        some (.bool false, []))) (
       some (.bool false, []))) (
      some (.bool false, []))) (
     some (.bool false, []))) (
    some (.bool false, []))) (
   some (.bool false, [])) := by kernel_rfl


theorem e9_6 (C : CallT) (b0 : Bool) (b1 : Bool) (r2 : List (List V)) (r3 : List (List V)) (n4 : Int) (n5 : Int) (r6 : List (List V)) (n7 : Int) (n8 : Int) (b9 : Bool) (n10 : Int) : roundK Go.Ab.G20 Go.Ab.L20 C 9 none 6 ⟨(sp 0 96 [(2, .bool b0), (3, .bool b1), (4, .slice .any r2), (5, .slice .any r3), (6, .box [.int .i64 n4, .int .i64 n5]), (7, .slice .any r6), (8, .box [.int .i64 n7, .int .i64 n8]), (9, .bool b9), (10, .int .i64 n10)]), []⟩ =
  cond (decide (n10 < ((r6.length : Nat) : Int))) (
   cond (!b9) (
    some (.ret, ⟨(sp 0 96 [(2, .bool false), (3, .bool b1), (4, .slice .any r2), (5, .slice .any r3), (6, .box [.int .i64 n4, .int .i64 n5]), (7, .slice .any r6), (8, .box [.int .i64 n7, .int .i64 n8]), (9, .bool b9), (10, .int .i64 n10)]), []⟩)) (
    (getRow r6 n10 2).bind fun x0 =>
    (uncons x0).bind fun x1 =>
    (asInt .i64 (x1.1)).bind fun x2 =>
    (uncons x1.2).bind fun x3 =>
    (asInt .i64 (x3.1)).bind fun x4 =>
    (isNil x3.2).bind fun x5 =>
    (C.p (.func 30) [.agg [.int .i64 x2, .int .i64 x4], .agg [.int .i64 n7, .int .i64 n8]]).bind fun x6 =>
    (asBool (x6)).bind fun x7 =>
    cond (!x7) (
     some (.ret, ⟨(sp 0 96 [(2, .bool false), (3, .bool b1), (4, .slice .any r2), (5, .slice .any r3), (6, .box [.int .i64 n4, .int .i64 n5]), (7, .slice .any r6), (8, .box [.int .i64 n7, .int .i64 n8]), (9, .bool b9), (10, .int .i64 n10)]), []⟩)) (
     (getRow r6 n10 2).bind fun x8 =>
     (uncons x8).bind fun x9 =>
     (asInt .i64 (x9.1)).bind fun x10 =>
     (uncons x9.2).bind fun x11 =>
     (asInt .i64 (x11.1)).bind fun x12 =>
     (isNil x11.2).bind fun x13 =>
     (getRow r6 n10 2).bind fun x14 =>
     (uncons x14).bind fun x15 =>
     (asInt .i64 (x15.1)).bind fun x16 =>
     (uncons x15.2).bind fun x17 =>
     (asInt .i64 (x17.1)).bind fun x18 =>
     (isNil x17.2).bind fun x19 =>
     cond (decide (x10 > x18)) (
      some (.ret, ⟨(sp 0 96 [(2, .bool false), (3, .bool b1), (4, .slice .any r2), (5, .slice .any r3), (6, .box [.int .i64 n4, .int .i64 n5]), (7, .slice .any r6), (8, .box [.int .i64 n7, .int .i64 n8]), (9, .bool b9), (10, .int .i64 n10)]), []⟩)) (
      cond (decide (n10 > 0)) (
       (getRow r6 (Go.IntKind.wrap .i64 (n10 - 1)) 2).bind fun x20 =>
       (uncons x20).bind fun x21 =>
       (asInt .i64 (x21.1)).bind fun x22 =>
       (uncons x21.2).bind fun x23 =>
       (asInt .i64 (x23.1)).bind fun x24 =>
       (isNil x23.2).bind fun x25 =>
       (getRow r6 n10 2).bind fun x26 =>
       (uncons x26).bind fun x27 =>
       (asInt .i64 (x27.1)).bind fun x28 =>
       (uncons x27.2).bind fun x29 =>
       (asInt .i64 (x29.1)).bind fun x30 =>
       (isNil x29.2).bind fun x31 =>
       cond (decide (x24 ≥ x28)) (
        some (.ret, ⟨(sp 0 96 [(2, .bool false), (3, .bool b1), (4, .slice .any r2), (5, .slice .any r3), (6, .box [.int .i64 n4, .int .i64 n5]), (7, .slice .any r6), (8, .box [.int .i64 n7, .int .i64 n8]), (9, .bool b9), (10, .int .i64 n10)]), []⟩)) (
        some (.normal, ⟨(sp 0 96 [(2, .bool b0), (3, .bool b1), (4, .slice .any r2), (5, .slice .any r3), (6, .box [.int .i64 n4, .int .i64 n5]), (7, .slice .any r6), (8, .box [.int .i64 n7, .int .i64 n8]), (9, .bool b9), (10, .int .i64 (Go.IntKind.wrap .i64 (n10 + 1)))]), []⟩))) (
       some (.normal, ⟨(sp 0 96 [(2, .bool b0), (3, .bool b1), (4, .slice .any r2), (5, .slice .any r3), (6, .box [.int .i64 n4, .int .i64 n5]), (7, .slice .any r6), (8, .box [.int .i64 n7, .int .i64 n8]), (9, .bool b9), (10, .int .i64 (Go.IntKind.wrap .i64 (n10 + 1)))]), []⟩)))))) (
   some ((.exit 0), ⟨(sp 0 96 [(2, .bool b0), (3, .bool b1), (4, .slice .any r2), (5, .slice .any r3), (6, .box [.int .i64 n4, .int .i64 n5]), (7, .slice .any r6), (8, .box [.int .i64 n7, .int .i64 n8]), (9, .bool b9), (10, .int .i64 n10)]), []⟩)) := by kernel_rfl

theorem e9 (C : CallT) (r0 : List (List V)) (r1 : List (List V)) (n2 : Int) (n3 : Int) : run1 Go.Ab.G20 Go.Ab.L20 C (.func 9) [.agg [.slice .any r0, .slice .any r1, .int .u8 n2, .int .i64 n3]] [] =
  (C.p (.func 11) []).bind fun x0 =>
  (asBool (x0)).bind fun x1 =>
  (C.p (.func 12) [.agg [.slice .any r0, .slice .any r1, .int .u8 n2, .int .i64 n3]]).bind fun x2 =>
  (asTuple (x2)).bind fun x3 =>
  (uncons x3).bind fun x4 =>
  (asRows (x4.1)).bind fun x5 =>
  (uncons x4.2).bind fun x6 =>
  (asRows (x6.1)).bind fun x7 =>
  (uncons x6.2).bind fun x8 =>
  (asCells (x8.1)).bind fun x9 =>
  (uncons x9).bind fun x10 =>
  (asInt .i64 (x10.1)).bind fun x11 =>
  (uncons x10.2).bind fun x12 =>
  (asInt .i64 (x12.1)).bind fun x13 =>
  (isNil x12.2).bind fun x14 =>
  (isNil x8.2).bind fun x15 =>
  (C.p (.func 21) [.slice .any x5, .slice .any x7, .agg [.int .i64 x11, .int .i64 x13]]).bind fun x16 =>
  (asRows (x16)).bind fun x17 =>
  (C.p (.func 13) [.slice .any x5, .slice .any x7]).bind fun x18 =>
  (asTuple (x18)).bind fun x19 =>
  (uncons x19).bind fun x20 =>
  (asCells (x20.1)).bind fun x21 =>
  (uncons x21).bind fun x22 =>
  (asInt .i64 (x22.1)).bind fun x23 =>
  (uncons x22.2).bind fun x24 =>
  (asInt .i64 (x24.1)).bind fun x25 =>
  (isNil x24.2).bind fun x26 =>
  (uncons x20.2).bind fun x27 =>
  (asBool (x27.1)).bind fun x28 =>
  (isNil x27.2).bind fun x29 =>
  (C.w (roundK Go.Ab.G20 Go.Ab.L20 C 9 none 6) ⟨(sp 0 96 [(2, .bool false), (3, .bool x1), (4, .slice .any x5), (5, .slice .any x7), (6, .box [.int .i64 x11, .int .i64 x13]), (7, .slice .any x17), (8, .box [.int .i64 x23, .int .i64 x25]), (9, .bool x28), (10, .int .i64 0)]), []⟩).bind fun x30 =>
  match x30.1 with
  | .normal =>
    none
  | .exit x32 =>
    cond (Nat.beq x32 0) (
     (asBool ((nth x30.2.t 2))).bind fun x33 =>
     (asBool ((nth x30.2.t 3))).bind fun x34 =>
     (asRows ((nth x30.2.t 4))).bind fun x35 =>
     (asRows ((nth x30.2.t 5))).bind fun x36 =>
     (asBox ((nth x30.2.t 6))).bind fun x37 =>
     (uncons x37).bind fun x38 =>
     (asInt .i64 (x38.1)).bind fun x39 =>
     (uncons x38.2).bind fun x40 =>
     (asInt .i64 (x40.1)).bind fun x41 =>
     (isNil x40.2).bind fun x42 =>
     (asRows ((nth x30.2.t 7))).bind fun x43 =>
     (asBox ((nth x30.2.t 8))).bind fun x44 =>
     (uncons x44).bind fun x45 =>
     (asInt .i64 (x45.1)).bind fun x46 =>
     (uncons x45.2).bind fun x47 =>
     (asInt .i64 (x47.1)).bind fun x48 =>
     (isNil x47.2).bind fun x49 =>
     (asBool ((nth x30.2.t 9))).bind fun x50 =>
     (asInt .i64 ((nth x30.2.t 10))).bind fun x51 =>
     (C.p (.func 18) [.slice .any x35, .slice .any x36, .agg [.int .i64 x39, .int .i64 x41]]).bind fun x52 =>
     (asInt .i64 (x52)).bind fun x53 =>
     cond ((((x43.length : Nat) : Int) == 0) == (x53 == 1)) (
      cond x50 (
       some (.bool x34, [])) (
       cond (((x43.length : Nat) : Int) == 0) (
        some (.bool x34, [])) (
        some (.bool false, [])))) (
      some (.bool false, []))) (
     none)
  | .ret =>
    (asBool ((nth x30.2.t 2))).bind fun x54 =>
    (asBool ((nth x30.2.t 3))).bind fun x55 =>
    (asRows ((nth x30.2.t 4))).bind fun x56 =>
    (asRows ((nth x30.2.t 5))).bind fun x57 =>
    (asBox ((nth x30.2.t 6))).bind fun x58 =>
    (uncons x58).bind fun x59 =>
    (asInt .i64 (x59.1)).bind fun x60 =>
    (uncons x59.2).bind fun x61 =>
    (asInt .i64 (x61.1)).bind fun x62 =>
    (isNil x61.2).bind fun x63 =>
    (asRows ((nth x30.2.t 7))).bind fun x64 =>
    (asBox ((nth x30.2.t 8))).bind fun x65 =>
    (uncons x65).bind fun x66 =>
    (asInt .i64 (x66.1)).bind fun x67 =>
    (uncons x66.2).bind fun x68 =>
    (asInt .i64 (x68.1)).bind fun x69 =>
    (isNil x68.2).bind fun x70 =>
    (asBool ((nth x30.2.t 9))).bind fun x71 =>
    (asInt .i64 ((nth x30.2.t 10))).bind fun x72 =>
    some (.bool x54, []) := by kernel_rfl


end Go.Ab
