/-
  The functions of this seat, as the abstract machine runs them (printed by a program of mine).
-/
import Derived.Test.YtegjacoooihpgaaGe

set_option linter.all false
set_option linter.deprecated false
set_option linter.unusedSimpArgs false
set_option linter.unusedVariables false

namespace Go.Gx.Y
open Go.Gx
/-- sennet/sennetlaw08.PostTorn -/
def f3 : IFn := ⟨122, [.tmp 8],
  .seq (.region 0 [⟨(some 8), .mv (.const (.bool false)), none⟩]) (
  .seq (.seq (.region 0 [⟨(some 19), .mv (.tmp 1), none⟩,
    ⟨(some 20), .ln (.tmp 19), none⟩,
    ⟨(some 21), .bin .gtr (.tmp 20) (.const (.int .i64 64)), none⟩,
    ⟨(some 22), .mv (.tmp 21), none⟩,
    ⟨(some 23), .mv (.tmp 2), (some (22, false))⟩,
    ⟨(some 24), .ln (.tmp 23), (some (22, false))⟩,
    ⟨(some 25), .bin .gtr (.tmp 24) (.const (.int .i64 64)), (some (22, false))⟩,
    ⟨(some 26), .pick (.tmp 22) (.const (.bool true)) (.tmp 25), none⟩]) (
  .cond (.tmp 26) (
    .seq (.region 0 [⟨(some 27), .call (.func 8) [], none⟩,
      ⟨(some 8), .mv (.tmp 27), none⟩]) (
    .ret)) (
    .skip))) (
  .seq (.region 0 [⟨(some 28), .mv (.tmp 0), none⟩,
    ⟨(some 29), .conv .u64 (.tmp 28), none⟩,
    ⟨(some 30), .bin .rem (.tmp 29) (.const (.int .u64 16)), none⟩,
    ⟨(some 31), .conv .i64 (.tmp 30), none⟩,
    ⟨(some 9), .mv (.tmp 31), none⟩]) (
  .seq (.region 0 [⟨(some 33), .call (.func 9) [(.const (.int .i64 16))], none⟩,
    ⟨(some 32), .mv (.tmp 33), none⟩,
    ⟨(some 34), .extr (.tmp 32) 0, none⟩,
    ⟨(some 35), .extr (.tmp 32) 1, none⟩,
    ⟨(some 10), .mv (.tmp 34), none⟩,
    ⟨(some 11), .mv (.tmp 35), none⟩]) (
  .seq (.seq (.region 0 [⟨(some 36), .mv (.tmp 11), none⟩,
    ⟨(some 37), .bin .neq (.tmp 36) (.const (.int .i64 0)), none⟩,
    ⟨(some 38), .mv (.tmp 37), none⟩,
    ⟨(some 39), .mv (.tmp 10), (some (38, false))⟩,
    ⟨(some 40), .eqn .ptr false (.tmp 39) (.const (.pointer none)), (some (38, false))⟩,
    ⟨(some 41), .pick (.tmp 38) (.const (.bool true)) (.tmp 40), none⟩]) (
  .cond (.tmp 41) (
    .seq (.region 0 [⟨(some 8), .mv (.const (.bool false)), none⟩]) (
    .ret)) (
    .skip))) (
  .seq (.region 0 [⟨(some 42), .mv (.tmp 10), none⟩,
    ⟨(some 43), .mv (.tmp 9), none⟩,
    ⟨(some 44), .mv (.tmp 1), none⟩,
    ⟨(some 45), .call (.func 10) [(.tmp 42), (.tmp 43), (.tmp 44)], none⟩,
    ⟨(some 12), .mv (.tmp 45), none⟩]) (
  .seq (.region 0 [⟨(some 46), .mv (.tmp 10), none⟩,
    ⟨(some 47), .call (.func 11) [(.tmp 46)], none⟩,
    ⟨(some 13), .mv (.tmp 47), none⟩]) (
  .seq (.region 0 [⟨(some 48), .mv (.tmp 10), none⟩,
    ⟨(some 49), .mv (.tmp 9), none⟩,
    ⟨(some 50), .mv (.tmp 2), none⟩,
    ⟨(some 51), .call (.func 10) [(.tmp 48), (.tmp 49), (.tmp 50)], none⟩,
    ⟨(some 14), .mv (.tmp 51), none⟩]) (
  .seq (.region 1 [⟨(some 52), .mv (.tmp 10), none⟩,
    ⟨(some 53), .mv (.tmp 3), none⟩,
    ⟨(some 54), .bslice 3 1 [(.int .i64 0)] 1 [(0, 1, (.tmp 53))], none⟩,
    ⟨(some 55), .call (.func 12) [(.tmp 52), (.tmp 54)], none⟩]) (
  .seq (.region 0 [⟨(some 57), .mv (.tmp 10), none⟩,
    ⟨(some 58), .mv (.tmp 9), none⟩,
    ⟨(some 59), .call (.func 13) [(.tmp 57), (.tmp 58)], none⟩,
    ⟨(some 56), .mv (.tmp 59), none⟩,
    ⟨(some 60), .extr (.tmp 56) 0, none⟩,
    ⟨(some 61), .extr (.tmp 56) 1, none⟩,
    ⟨(some 15), .mv (.tmp 60), none⟩,
    ⟨(some 16), .mv (.tmp 61), none⟩]) (
  .seq (.seq (.region 0 [⟨(some 62), .mv (.tmp 12), none⟩,
    ⟨(some 63), .bin .neq (.tmp 62) (.const (.int .i64 0)), none⟩,
    ⟨(some 64), .mv (.tmp 63), none⟩,
    ⟨(some 65), .mv (.tmp 13), (some (64, false))⟩,
    ⟨(some 66), .bin .neq (.tmp 65) (.const (.int .i64 0)), (some (64, false))⟩,
    ⟨(some 67), .pick (.tmp 64) (.const (.bool true)) (.tmp 66), none⟩,
    ⟨(some 68), .mv (.tmp 67), none⟩,
    ⟨(some 69), .mv (.tmp 14), (some (68, false))⟩,
    ⟨(some 70), .bin .neq (.tmp 69) (.const (.int .i64 0)), (some (68, false))⟩,
    ⟨(some 71), .pick (.tmp 68) (.const (.bool true)) (.tmp 70), none⟩,
    ⟨(some 72), .mv (.tmp 71), none⟩,
    ⟨(some 73), .mv (.tmp 16), (some (72, false))⟩,
    ⟨(some 74), .bin .neq (.tmp 73) (.const (.int .i64 0)), (some (72, false))⟩,
    ⟨(some 75), .pick (.tmp 72) (.const (.bool true)) (.tmp 74), none⟩,
    ⟨(some 76), .mv (.tmp 75), none⟩,
    ⟨(some 77), .mv (.tmp 15), (some (76, false))⟩,
    ⟨(some 78), .ln (.tmp 77), (some (76, false))⟩,
    ⟨(some 79), .bin .neq (.tmp 78) (.const (.int .i64 64)), (some (76, false))⟩,
    ⟨(some 80), .pick (.tmp 76) (.const (.bool true)) (.tmp 79), none⟩,
    ⟨(some 81), .mv (.tmp 80), none⟩,
    ⟨(some 82), .mv (.tmp 10), (some (81, false))⟩,
    ⟨(some 83), .call (.func 14) [(.tmp 82)], (some (81, false))⟩,
    ⟨(some 84), .pick (.tmp 81) (.const (.bool true)) (.tmp 83), none⟩]) (
  .cond (.tmp 84) (
    .seq (.region 0 [⟨(some 8), .mv (.const (.bool false)), none⟩]) (
    .ret)) (
    .skip))) (
  .seq (.seq (.region 0 [⟨(some 17), .mv (.const (.int .i64 0)), none⟩]) (
  .block 0 (
    .loop (
      .seq (.seq (.region 0 [⟨(some 85), .mv (.tmp 17), none⟩,
        ⟨(some 86), .bin .lss (.tmp 85) (.const (.int .i64 64)), none⟩]) (
      .cond (.tmp 86) (
        .skip) (
        .exit 0))) (
      .seq (.block 1 (
        .seq (.region 0 [⟨(some 18), .mv (.const (.int .u8 0)), none⟩]) (
        .seq (.seq (.region 0 [⟨(some 89), .mv (.tmp 17), none⟩,
          ⟨(some 90), .mv (.tmp 3), none⟩,
          ⟨(some 91), .bin .lss (.tmp 89) (.tmp 90), none⟩,
          ⟨(some 92), .mv (.tmp 91), none⟩,
          ⟨(some 93), .mv (.tmp 17), (some (92, true))⟩,
          ⟨(some 94), .mv (.tmp 2), (some (92, true))⟩,
          ⟨(some 95), .ln (.tmp 94), (some (92, true))⟩,
          ⟨(some 96), .bin .lss (.tmp 93) (.tmp 95), (some (92, true))⟩,
          ⟨(some 97), .pick (.tmp 92) (.tmp 96) (.const (.bool false)), none⟩]) (
        .cond (.tmp 97) (
          .region 0 [⟨(some 98), .mv (.tmp 2), none⟩,
            ⟨(some 99), .mv (.tmp 17), none⟩,
            ⟨(some 100), .idxA none 1 (.tmp 98) (.tmp 99), none⟩,
            ⟨(some 101), .load none (.tmp 100), none⟩,
            ⟨(some 18), .mv (.tmp 101), none⟩]) (
          .skip))) (
        .seq (.seq (.region 0 [⟨(some 102), .mv (.tmp 17), none⟩,
          ⟨(some 103), .mv (.tmp 3), none⟩,
          ⟨(some 104), .bin .geq (.tmp 102) (.tmp 103), none⟩,
          ⟨(some 105), .mv (.tmp 104), none⟩,
          ⟨(some 106), .mv (.tmp 17), (some (105, true))⟩,
          ⟨(some 107), .mv (.tmp 1), (some (105, true))⟩,
          ⟨(some 108), .ln (.tmp 107), (some (105, true))⟩,
          ⟨(some 109), .bin .lss (.tmp 106) (.tmp 108), (some (105, true))⟩,
          ⟨(some 110), .pick (.tmp 105) (.tmp 109) (.const (.bool false)), none⟩]) (
        .cond (.tmp 110) (
          .region 0 [⟨(some 111), .mv (.tmp 1), none⟩,
            ⟨(some 112), .mv (.tmp 17), none⟩,
            ⟨(some 113), .idxA none 1 (.tmp 111) (.tmp 112), none⟩,
            ⟨(some 114), .load none (.tmp 113), none⟩,
            ⟨(some 18), .mv (.tmp 114), none⟩]) (
          .skip))) (
        .seq (.region 0 [⟨(some 115), .mv (.tmp 15), none⟩,
          ⟨(some 116), .mv (.tmp 17), none⟩,
          ⟨(some 117), .idxA none 1 (.tmp 115) (.tmp 116), none⟩,
          ⟨(some 118), .load none (.tmp 117), none⟩,
          ⟨(some 119), .mv (.tmp 18), none⟩,
          ⟨(some 120), .bin .neq (.tmp 118) (.tmp 119), none⟩]) (
        .cond (.tmp 120) (
          .seq (.region 0 [⟨(some 8), .mv (.const (.bool false)), none⟩]) (
          .ret)) (
          .skip))))))) (
      .region 0 [⟨(some 87), .mv (.tmp 17), none⟩,
        ⟨(some 88), .bin .add (.tmp 87) (.const (.int .i64 1)), none⟩,
        ⟨(some 17), .mv (.tmp 88), none⟩])))))) (
  .seq (.region 0 [⟨(some 121), .call (.func 8) [], none⟩,
    ⟨(some 8), .mv (.tmp 121), none⟩]) (
  .ret)))))))))))))⟩

/-- sennet/sennetlaw08.PostDisk -/
def f4 : IFn := ⟨80, [.tmp 4],
  .seq (.region 0 [⟨(some 4), .mv (.const (.bool false)), none⟩]) (
  .seq (.seq (.region 0 [⟨(some 12), .mv (.tmp 1), none⟩,
    ⟨(some 13), .call (.func 15) [(.tmp 12)], none⟩,
    ⟨(some 14), .un .not (.tmp 13), none⟩]) (
  .cond (.tmp 14) (
    .seq (.region 0 [⟨(some 15), .call (.func 8) [], none⟩,
      ⟨(some 4), .mv (.tmp 15), none⟩]) (
    .ret)) (
    .skip))) (
  .seq (.seq (.region 0 [⟨(some 16), .mv (.tmp 0), none⟩,
    ⟨(some 17), .bin .lss (.tmp 16) (.const (.int .i64 16)), none⟩,
    ⟨(some 18), .mv (.tmp 17), none⟩,
    ⟨(some 19), .mv (.tmp 0), (some (18, false))⟩,
    ⟨(some 20), .bin .gtr (.tmp 19) (.const (.int .i64 65536)), (some (18, false))⟩,
    ⟨(some 21), .pick (.tmp 18) (.const (.bool true)) (.tmp 20), none⟩]) (
  .cond (.tmp 21) (
    .seq (.region 0 [⟨(some 23), .mv (.tmp 0), none⟩,
      ⟨(some 24), .call (.func 9) [(.tmp 23)], none⟩,
      ⟨(some 22), .mv (.tmp 24), none⟩,
      ⟨(some 25), .extr (.tmp 22) 0, none⟩,
      ⟨(some 26), .extr (.tmp 22) 1, none⟩,
      ⟨(some 5), .mv (.tmp 25), none⟩,
      ⟨(some 6), .mv (.tmp 26), none⟩]) (
    .seq (.region 0 [⟨(some 27), .mv (.tmp 5), none⟩,
      ⟨(some 28), .eqn .ptr true (.tmp 27) (.const (.pointer none)), none⟩,
      ⟨(some 29), .mv (.tmp 28), none⟩,
      ⟨(some 30), .mv (.tmp 6), (some (29, false))⟩,
      ⟨(some 31), .bin .neq (.tmp 30) (.const (.int .i64 1)), (some (29, false))⟩,
      ⟨(some 32), .pick (.tmp 29) (.const (.bool true)) (.tmp 31), none⟩]) (
    .cond (.tmp 32) (
      .seq (.region 0 [⟨(some 4), .mv (.const (.bool false)), none⟩]) (
      .ret)) (
      .skip)))) (
    .skip))) (
  .seq (.region 0 [⟨(some 34), .mv (.tmp 0), none⟩,
    ⟨(some 35), .call (.func 16) [(.tmp 34)], none⟩,
    ⟨(some 33), .mv (.tmp 35), none⟩,
    ⟨(some 36), .extr (.tmp 33) 0, none⟩,
    ⟨(some 37), .extr (.tmp 33) 1, none⟩,
    ⟨(some 38), .extr (.tmp 33) 2, none⟩,
    ⟨(some 7), .mv (.tmp 36), none⟩,
    ⟨(some 8), .mv (.tmp 37), none⟩,
    ⟨(some 9), .mv (.tmp 38), none⟩]) (
  .seq (.seq (.region 0 [⟨(some 39), .mv (.tmp 9), none⟩,
    ⟨(some 40), .un .not (.tmp 39), none⟩]) (
  .cond (.tmp 40) (
    .seq (.region 0 [⟨(some 4), .mv (.const (.bool false)), none⟩]) (
    .ret)) (
    .skip))) (
  .seq (.seq (.region 0 [⟨(some 10), .mv (.const (.int .i64 0)), none⟩]) (
  .block 0 (
    .loop (
      .seq (.seq (.region 0 [⟨(some 41), .mv (.tmp 10), none⟩,
        ⟨(some 42), .mv (.tmp 1), none⟩,
        ⟨(some 43), .ln (.tmp 42), none⟩,
        ⟨(some 44), .bin .lss (.tmp 41) (.tmp 43), none⟩]) (
      .cond (.tmp 44) (
        .skip) (
        .exit 0))) (
      .seq (.block 1 (
        .seq (.draw 0 [⟨0, 0, 0, ⟨(some 47), .mv (.tmp 7), none⟩⟩,
          ⟨1, 0, 0, ⟨(some 48), .mv (.tmp 8), none⟩⟩,
          ⟨2, 0, 0, ⟨(some 49), .mv (.tmp 1), none⟩⟩,
          ⟨3, 0, 0, ⟨(some 50), .mv (.tmp 10), none⟩⟩,
          ⟨4, 0, 12, ⟨(some 51), .idxA none 5 (.tmp 49) (.tmp 50), none⟩⟩,
          ⟨5, 0, 28, ⟨(some 52), .load (some 5) (.tmp 51), none⟩⟩,
          ⟨6, 0, 63, ⟨(some 53), .call (.func 17) [(.tmp 47), (.tmp 48), (.tmp 52)], none⟩⟩,
          ⟨7, 0, 127, ⟨(some 54), .un .not (.tmp 53), none⟩⟩,
          ⟨8, 0, 255, ⟨(some 55), .mv (.tmp 54), none⟩⟩,
          ⟨9, 0, 511, ⟨(some 56), .mv (.tmp 7), (some (55, false))⟩⟩,
          ⟨11, 0, 511, ⟨(some 58), .mv (.tmp 8), (some (55, false))⟩⟩,
          ⟨12, 0, 2559, ⟨(some 59), .nilc (.tmp 58), (some (55, false))⟩⟩,
          ⟨13, 0, 6655, ⟨(some 60), .fldA 3 (.tmp 59), (some (55, false))⟩⟩,
          ⟨14, 0, 14847, ⟨(some 61), .load none (.tmp 60), (some (55, false))⟩⟩,
          ⟨10, 0, 1023, ⟨(some 57), .call (.func 14) [(.tmp 56)], (some (55, false))⟩⟩,
          ⟨15, 0, 32767, ⟨(some 62), .eqc true [.bool] false (.tmp 57) (.tmp 61), (some (55, false))⟩⟩,
          ⟨16, 0, 65535, ⟨(some 63), .pick (.tmp 55) (.const (.bool true)) (.tmp 62), none⟩⟩]) (
        .cond (.tmp 63) (
          .seq (.region 0 [⟨(some 4), .mv (.const (.bool false)), none⟩]) (
          .ret)) (
          .skip)))) (
      .region 0 [⟨(some 45), .mv (.tmp 10), none⟩,
        ⟨(some 46), .bin .add (.tmp 45) (.const (.int .i64 1)), none⟩,
        ⟨(some 10), .mv (.tmp 46), none⟩])))))) (
  .seq (.seq (.region 0 [⟨(some 11), .mv (.const (.int .i64 0)), none⟩]) (
  .block 2 (
    .loop (
      .seq (.seq (.region 0 [⟨(some 64), .mv (.tmp 11), none⟩,
        ⟨(some 65), .mv (.tmp 8), none⟩,
        ⟨(some 66), .nilc (.tmp 65), none⟩,
        ⟨(some 67), .fldA 0 (.tmp 66), none⟩,
        ⟨(some 68), .load none (.tmp 67), none⟩,
        ⟨(some 69), .ln (.tmp 68), none⟩,
        ⟨(some 70), .bin .lss (.tmp 64) (.tmp 69), none⟩]) (
      .cond (.tmp 70) (
        .skip) (
        .exit 2))) (
      .seq (.block 3 (
        .seq (.region 0 [⟨(some 73), .mv (.tmp 7), none⟩,
          ⟨(some 74), .mv (.tmp 8), none⟩,
          ⟨(some 75), .mv (.tmp 11), none⟩,
          ⟨(some 76), .build [(.int .u8 0), (.int .i64 0), (.slice none 0 0), (.int .i64 0), (.slice none 0 0)] [(1, 1, (.tmp 75))], none⟩,
          ⟨(some 77), .call (.func 17) [(.tmp 73), (.tmp 74), (.tmp 76)], none⟩,
          ⟨(some 78), .un .not (.tmp 77), none⟩]) (
        .cond (.tmp 78) (
          .seq (.region 0 [⟨(some 4), .mv (.const (.bool false)), none⟩]) (
          .ret)) (
          .skip)))) (
      .region 0 [⟨(some 71), .mv (.tmp 11), none⟩,
        ⟨(some 72), .bin .add (.tmp 71) (.const (.int .i64 1)), none⟩,
        ⟨(some 11), .mv (.tmp 72), none⟩])))))) (
  .seq (.region 0 [⟨(some 79), .call (.func 8) [], none⟩,
    ⟨(some 4), .mv (.tmp 79), none⟩]) (
  .ret))))))))⟩

/-- sennet/sennetlaw08.PostRoom -/
def f5 : IFn := ⟨122, [.tmp 4],
  .seq (.region 0 [⟨(some 4), .mv (.const (.bool false)), none⟩]) (
  .seq (.region 0 [⟨(some 18), .mv (.tmp 0), none⟩,
    ⟨(some 19), .conv .u64 (.tmp 18), none⟩,
    ⟨(some 20), .bin .rem (.tmp 19) (.const (.int .u64 2000)), none⟩,
    ⟨(some 21), .conv .i64 (.tmp 20), none⟩,
    ⟨(some 22), .bin .add (.const (.int .i64 16)) (.tmp 21), none⟩,
    ⟨(some 5), .mv (.tmp 22), none⟩]) (
  .seq (.region 0 [⟨(some 24), .mv (.tmp 5), none⟩,
    ⟨(some 25), .call (.func 9) [(.tmp 24)], none⟩,
    ⟨(some 23), .mv (.tmp 25), none⟩,
    ⟨(some 26), .extr (.tmp 23) 0, none⟩,
    ⟨(some 27), .extr (.tmp 23) 1, none⟩,
    ⟨(some 6), .mv (.tmp 26), none⟩,
    ⟨(some 7), .mv (.tmp 27), none⟩]) (
  .seq (.seq (.region 0 [⟨(some 28), .mv (.tmp 7), none⟩,
    ⟨(some 29), .bin .neq (.tmp 28) (.const (.int .i64 0)), none⟩,
    ⟨(some 30), .mv (.tmp 29), none⟩,
    ⟨(some 31), .mv (.tmp 6), (some (30, false))⟩,
    ⟨(some 32), .eqn .ptr false (.tmp 31) (.const (.pointer none)), (some (30, false))⟩,
    ⟨(some 33), .pick (.tmp 30) (.const (.bool true)) (.tmp 32), none⟩]) (
  .cond (.tmp 33) (
    .seq (.region 0 [⟨(some 4), .mv (.const (.bool false)), none⟩]) (
    .ret)) (
    .skip))) (
  .seq (.region 0 [⟨(some 35), .mv (.tmp 6), none⟩,
    ⟨(some 36), .call (.func 18) [(.tmp 35)], none⟩,
    ⟨(some 34), .mv (.tmp 36), none⟩,
    ⟨(some 37), .extr (.tmp 34) 0, none⟩,
    ⟨(some 38), .extr (.tmp 34) 1, none⟩,
    ⟨(some 39), .extr (.tmp 34) 2, none⟩,
    ⟨(some 8), .mv (.tmp 37), none⟩,
    ⟨(some 9), .mv (.tmp 38), none⟩,
    ⟨(some 10), .mv (.tmp 39), none⟩]) (
  .seq (.seq (.region 0 [⟨(some 40), .mv (.tmp 10), none⟩,
    ⟨(some 41), .bin .neq (.tmp 40) (.const (.int .i64 0)), none⟩,
    ⟨(some 42), .mv (.tmp 41), none⟩,
    ⟨(some 43), .mv (.tmp 8), (some (42, false))⟩,
    ⟨(some 44), .eqn .ptr false (.tmp 43) (.const (.pointer none)), (some (42, false))⟩,
    ⟨(some 45), .pick (.tmp 42) (.const (.bool true)) (.tmp 44), none⟩]) (
  .cond (.tmp 45) (
    .seq (.region 0 [⟨(some 4), .mv (.const (.bool false)), none⟩]) (
    .ret)) (
    .skip))) (
  .seq (.region 0 [⟨(some 46), .mv (.tmp 5), none⟩,
    ⟨(some 47), .bin .quo (.tmp 46) (.const (.int .i64 2)), none⟩,
    ⟨(some 11), .mv (.tmp 47), none⟩]) (
  .seq (.region 0 [⟨(some 12), .mv (.const (.slice none 0 0)), none⟩]) (
  .seq (.seq (.region 0 [⟨(some 13), .mv (.const (.int .i64 0)), none⟩]) (
  .block 0 (
    .loop (
      .seq (.seq (.region 0 [⟨(some 48), .mv (.tmp 13), none⟩,
        ⟨(some 49), .mv (.tmp 1), none⟩,
        ⟨(some 50), .ln (.tmp 49), none⟩,
        ⟨(some 51), .bin .lss (.tmp 48) (.tmp 50), none⟩,
        ⟨(some 52), .mv (.tmp 51), none⟩,
        ⟨(some 53), .mv (.tmp 13), (some (52, true))⟩,
        ⟨(some 54), .bin .lss (.tmp 53) (.const (.int .i64 2000)), (some (52, true))⟩,
        ⟨(some 55), .pick (.tmp 52) (.tmp 54) (.const (.bool false)), none⟩]) (
      .cond (.tmp 55) (
        .skip) (
        .exit 0))) (
      .seq (.block 1 (
        .seq (.seq (.region 0 [⟨(some 58), .mv (.tmp 1), none⟩,
          ⟨(some 59), .mv (.tmp 13), none⟩,
          ⟨(some 60), .idxA none 1 (.tmp 58) (.tmp 59), none⟩,
          ⟨(some 61), .load none (.tmp 60), none⟩,
          ⟨(some 62), .sln (.tmp 61), none⟩,
          ⟨(some 63), .bin .gtr (.tmp 62) (.const (.int .i64 20000)), none⟩,
          ⟨(some 64), .mv (.tmp 63), none⟩,
          ⟨(some 65), .mv (.tmp 1), (some (64, false))⟩,
          ⟨(some 66), .mv (.tmp 13), (some (64, false))⟩,
          ⟨(some 67), .idxA none 1 (.tmp 65) (.tmp 66), (some (64, false))⟩,
          ⟨(some 68), .load none (.tmp 67), (some (64, false))⟩,
          ⟨(some 69), .sln (.tmp 68), (some (64, false))⟩,
          ⟨(some 70), .bin .quo (.tmp 69) (.const (.int .i64 32)), (some (64, false))⟩,
          ⟨(some 71), .bin .add (.const (.int .i64 1)) (.tmp 70), (some (64, false))⟩,
          ⟨(some 72), .mv (.tmp 11), (some (64, false))⟩,
          ⟨(some 73), .bin .gtr (.tmp 71) (.tmp 72), (some (64, false))⟩,
          ⟨(some 74), .pick (.tmp 64) (.const (.bool true)) (.tmp 73), none⟩]) (
        .cond (.tmp 74) (
          .exit 1) (
          .skip))) (
        .seq (.region 0 [⟨(some 75), .mv (.tmp 11), none⟩,
          ⟨(some 76), .bin .sub (.tmp 75) (.const (.int .i64 1)), none⟩,
          ⟨(some 77), .mv (.tmp 1), none⟩,
          ⟨(some 78), .mv (.tmp 13), none⟩,
          ⟨(some 79), .idxA none 1 (.tmp 77) (.tmp 78), none⟩,
          ⟨(some 80), .load none (.tmp 79), none⟩,
          ⟨(some 81), .sln (.tmp 80), none⟩,
          ⟨(some 82), .bin .quo (.tmp 81) (.const (.int .i64 32)), none⟩,
          ⟨(some 83), .bin .sub (.tmp 76) (.tmp 82), none⟩,
          ⟨(some 11), .mv (.tmp 83), none⟩]) (
        .seq (.seq (.region 0 [⟨(some 84), .mv (.tmp 8), none⟩,
          ⟨(some 85), .mv (.tmp 1), none⟩,
          ⟨(some 86), .mv (.tmp 13), none⟩,
          ⟨(some 87), .idxA none 1 (.tmp 85) (.tmp 86), none⟩,
          ⟨(some 88), .load none (.tmp 87), none⟩,
          ⟨(some 89), .call (.func 19) [(.tmp 84), (.tmp 88)], none⟩,
          ⟨(some 90), .bin .neq (.tmp 89) (.const (.int .i64 0)), none⟩]) (
        .cond (.tmp 90) (
          .seq (.region 0 [⟨(some 4), .mv (.const (.bool false)), none⟩]) (
          .ret)) (
          .skip))) (
        .region 2 [⟨(some 91), .mv (.tmp 12), none⟩,
          ⟨(some 92), .mv (.tmp 1), none⟩,
          ⟨(some 93), .mv (.tmp 13), none⟩,
          ⟨(some 94), .idxA none 1 (.tmp 92) (.tmp 93), none⟩,
          ⟨(some 95), .load none (.tmp 94), none⟩,
          ⟨(some 96), .bslice 9 1 [(.string ⟨#[]⟩)] 1 [(0, 1, (.tmp 95))], none⟩,
          ⟨(some 97), .app 9 1 16 [(.string ⟨#[]⟩)] (.tmp 91) (.tmp 96), none⟩,
          ⟨(some 12), .mv (.tmp 97), none⟩]))))) (
      .region 0 [⟨(some 56), .mv (.tmp 13), none⟩,
        ⟨(some 57), .bin .add (.tmp 56) (.const (.int .i64 1)), none⟩,
        ⟨(some 13), .mv (.tmp 57), none⟩])))))) (
  .seq (.region 0 [⟨(some 98), .mv (.tmp 8), none⟩,
    ⟨(some 99), .call (.func 20) [(.tmp 98)], none⟩,
    ⟨(some 14), .mv (.tmp 99), none⟩]) (
  .seq (.region 0 [⟨(some 100), .mv (.tmp 6), none⟩,
    ⟨(some 101), .call (.func 12) [(.tmp 100), (.const (.slice none 0 0))], none⟩]) (
  .seq (.region 0 [⟨(some 103), .mv (.tmp 6), none⟩,
    ⟨(some 104), .call (.func 18) [(.tmp 103)], none⟩,
    ⟨(some 102), .mv (.tmp 104), none⟩,
    ⟨(some 105), .extr (.tmp 102) 0, none⟩,
    ⟨(some 106), .extr (.tmp 102) 1, none⟩,
    ⟨(some 107), .extr (.tmp 102) 2, none⟩,
    ⟨(some 15), .mv (.tmp 105), none⟩,
    ⟨(some 16), .mv (.tmp 106), none⟩,
    ⟨(some 17), .mv (.tmp 107), none⟩]) (
  .seq (.region 0 [⟨(some 108), .call (.func 21) [], none⟩,
    ⟨(some 109), .mv (.tmp 108), none⟩,
    ⟨(some 110), .mv (.tmp 14), (some (109, true))⟩,
    ⟨(some 111), .bin .eql (.tmp 110) (.const (.int .i64 0)), (some (109, true))⟩,
    ⟨(some 112), .pick (.tmp 109) (.tmp 111) (.const (.bool false)), none⟩,
    ⟨(some 113), .mv (.tmp 112), none⟩,
    ⟨(some 114), .mv (.tmp 17), (some (113, true))⟩,
    ⟨(some 115), .bin .eql (.tmp 114) (.const (.int .i64 0)), (some (113, true))⟩,
    ⟨(some 116), .pick (.tmp 113) (.tmp 115) (.const (.bool false)), none⟩,
    ⟨(some 117), .mv (.tmp 116), none⟩,
    ⟨(some 118), .mv (.tmp 16), (some (117, true))⟩,
    ⟨(some 119), .mv (.tmp 12), (some (117, true))⟩,
    ⟨(some 120), .call (.func 22) [(.tmp 118), (.tmp 119)], (some (117, true))⟩,
    ⟨(some 121), .pick (.tmp 117) (.tmp 120) (.const (.bool false)), none⟩,
    ⟨(some 4), .mv (.tmp 121), none⟩]) (
  .ret)))))))))))))⟩

/-- sennet/sennetlaw08.PostPrefix -/
def f6 : IFn := ⟨188, [.tmp 10],
  .seq (.region 0 [⟨(some 10), .mv (.const (.bool false)), none⟩]) (
  .seq (.region 0 [⟨(some 11), .mv (.const (.int .i64 0)), none⟩]) (
  .seq (.seq (.region 0 [⟨(some 12), .mv (.const (.int .i64 0)), none⟩]) (
  .block 0 (
    .loop (
      .seq (.seq (.region 0 [⟨(some 28), .mv (.tmp 12), none⟩,
        ⟨(some 29), .mv (.tmp 0), none⟩,
        ⟨(some 30), .ln (.tmp 29), none⟩,
        ⟨(some 31), .bin .lss (.tmp 28) (.tmp 30), none⟩,
        ⟨(some 32), .mv (.tmp 31), none⟩,
        ⟨(some 33), .mv (.tmp 12), (some (32, true))⟩,
        ⟨(some 34), .bin .leq (.tmp 33) (.const (.int .i64 200)), (some (32, true))⟩,
        ⟨(some 35), .pick (.tmp 32) (.tmp 34) (.const (.bool false)), none⟩]) (
      .cond (.tmp 35) (
        .skip) (
        .exit 0))) (
      .seq (.block 1 (
        .seq (.seq (.region 0 [⟨(some 38), .mv (.tmp 0), none⟩,
          ⟨(some 39), .mv (.tmp 12), none⟩,
          ⟨(some 40), .idxA none 1 (.tmp 38) (.tmp 39), none⟩,
          ⟨(some 41), .load none (.tmp 40), none⟩,
          ⟨(some 42), .sln (.tmp 41), none⟩,
          ⟨(some 43), .bin .gtr (.tmp 42) (.const (.int .i64 20000)), none⟩]) (
        .cond (.tmp 43) (
          .seq (.region 0 [⟨(some 44), .call (.func 21) [], none⟩,
            ⟨(some 10), .mv (.tmp 44), none⟩]) (
          .ret)) (
          .skip))) (
        .region 0 [⟨(some 45), .mv (.tmp 11), none⟩,
          ⟨(some 46), .bin .add (.tmp 45) (.const (.int .i64 32)), none⟩,
          ⟨(some 47), .mv (.tmp 0), none⟩,
          ⟨(some 48), .mv (.tmp 12), none⟩,
          ⟨(some 49), .idxA none 1 (.tmp 47) (.tmp 48), none⟩,
          ⟨(some 50), .load none (.tmp 49), none⟩,
          ⟨(some 51), .sln (.tmp 50), none⟩,
          ⟨(some 52), .bin .add (.tmp 46) (.tmp 51), none⟩,
          ⟨(some 11), .mv (.tmp 52), none⟩]))) (
      .region 0 [⟨(some 36), .mv (.tmp 12), none⟩,
        ⟨(some 37), .bin .add (.tmp 36) (.const (.int .i64 1)), none⟩,
        ⟨(some 12), .mv (.tmp 37), none⟩])))))) (
  .seq (.seq (.region 0 [⟨(some 53), .mv (.tmp 0), none⟩,
    ⟨(some 54), .ln (.tmp 53), none⟩,
    ⟨(some 55), .bin .gtr (.tmp 54) (.const (.int .i64 200)), none⟩,
    ⟨(some 56), .mv (.tmp 55), none⟩,
    ⟨(some 57), .mv (.tmp 11), (some (56, false))⟩,
    ⟨(some 58), .bin .gtr (.tmp 57) (.const (.int .i64 100000)), (some (56, false))⟩,
    ⟨(some 59), .pick (.tmp 56) (.const (.bool true)) (.tmp 58), none⟩,
    ⟨(some 60), .mv (.tmp 59), none⟩,
    ⟨(some 61), .mv (.tmp 3), (some (60, false))⟩,
    ⟨(some 62), .ln (.tmp 61), (some (60, false))⟩,
    ⟨(some 63), .bin .gtr (.tmp 62) (.const (.int .i64 200)), (some (60, false))⟩,
    ⟨(some 64), .pick (.tmp 60) (.const (.bool true)) (.tmp 63), none⟩,
    ⟨(some 65), .mv (.tmp 64), none⟩,
    ⟨(some 66), .mv (.tmp 4), (some (65, false))⟩,
    ⟨(some 67), .ln (.tmp 66), (some (65, false))⟩,
    ⟨(some 68), .bin .gtr (.tmp 67) (.const (.int .i64 200)), (some (65, false))⟩,
    ⟨(some 69), .pick (.tmp 65) (.const (.bool true)) (.tmp 68), none⟩]) (
  .cond (.tmp 69) (
    .seq (.region 0 [⟨(some 70), .call (.func 21) [], none⟩,
      ⟨(some 10), .mv (.tmp 70), none⟩]) (
    .ret)) (
    .skip))) (
  .seq (.region 0 [⟨(some 72), .call (.func 9) [(.const (.int .i64 8000))], none⟩,
    ⟨(some 71), .mv (.tmp 72), none⟩,
    ⟨(some 73), .extr (.tmp 71) 0, none⟩,
    ⟨(some 74), .extr (.tmp 71) 1, none⟩,
    ⟨(some 13), .mv (.tmp 73), none⟩,
    ⟨(some 14), .mv (.tmp 74), none⟩]) (
  .seq (.region 0 [⟨(some 76), .mv (.tmp 13), none⟩,
    ⟨(some 77), .call (.func 18) [(.tmp 76)], none⟩,
    ⟨(some 75), .mv (.tmp 77), none⟩,
    ⟨(some 78), .extr (.tmp 75) 0, none⟩,
    ⟨(some 79), .extr (.tmp 75) 1, none⟩,
    ⟨(some 80), .extr (.tmp 75) 2, none⟩,
    ⟨(some 15), .mv (.tmp 78), none⟩,
    ⟨(some 16), .mv (.tmp 79), none⟩,
    ⟨(some 17), .mv (.tmp 80), none⟩]) (
  .seq (.seq (.region 0 [⟨(some 81), .mv (.tmp 17), none⟩,
    ⟨(some 82), .bin .neq (.tmp 81) (.const (.int .i64 0)), none⟩,
    ⟨(some 83), .mv (.tmp 82), none⟩,
    ⟨(some 84), .mv (.tmp 15), (some (83, false))⟩,
    ⟨(some 85), .eqn .ptr false (.tmp 84) (.const (.pointer none)), (some (83, false))⟩,
    ⟨(some 86), .pick (.tmp 83) (.const (.bool true)) (.tmp 85), none⟩]) (
  .cond (.tmp 86) (
    .seq (.region 0 [⟨(some 10), .mv (.const (.bool false)), none⟩]) (
    .ret)) (
    .skip))) (
  .seq (.region 0 [⟨(some 18), .mv (.const (.int .i64 0)), none⟩]) (
  .seq (.region 0 [⟨(some 19), .mv (.const (.int .i64 0)), none⟩]) (
  .seq (.seq (.region 0 [⟨(some 20), .mv (.const (.int .i64 0)), none⟩]) (
  .block 2 (
    .loop (
      .seq (.seq (.region 0 [⟨(some 87), .mv (.tmp 20), none⟩,
        ⟨(some 88), .mv (.tmp 0), none⟩,
        ⟨(some 89), .ln (.tmp 88), none⟩,
        ⟨(some 90), .bin .lss (.tmp 87) (.tmp 89), none⟩]) (
      .cond (.tmp 90) (
        .skip) (
        .exit 2))) (
      .seq (.block 3 (
        .seq (.seq (.region 0 [⟨(some 93), .mv (.tmp 20), none⟩,
          ⟨(some 94), .mv (.tmp 1), none⟩,
          ⟨(some 95), .bin .eql (.tmp 93) (.tmp 94), none⟩]) (
        .cond (.tmp 95) (
          .region 0 [⟨(some 96), .mv (.tmp 13), none⟩,
            ⟨(some 97), .mv (.tmp 2), none⟩,
            ⟨(some 98), .conv .u64 (.tmp 97), none⟩,
            ⟨(some 99), .bin .rem (.tmp 98) (.const (.int .u64 300)), none⟩,
            ⟨(some 100), .conv .i64 (.tmp 99), none⟩,
            ⟨(some 101), .call (.func 23) [(.tmp 96), (.tmp 100)], none⟩]) (
          .skip))) (
        .seq (.region 0 [⟨(some 102), .mv (.tmp 15), none⟩,
          ⟨(some 103), .mv (.tmp 0), none⟩,
          ⟨(some 104), .mv (.tmp 20), none⟩,
          ⟨(some 105), .idxA none 1 (.tmp 103) (.tmp 104), none⟩,
          ⟨(some 106), .load none (.tmp 105), none⟩,
          ⟨(some 107), .call (.func 19) [(.tmp 102), (.tmp 106)], none⟩,
          ⟨(some 21), .mv (.tmp 107), none⟩]) (
        .seq (.seq (.region 0 [⟨(some 108), .mv (.tmp 21), none⟩,
          ⟨(some 109), .bin .neq (.tmp 108) (.const (.int .i64 0)), none⟩]) (
        .cond (.tmp 109) (
          .seq (.seq (.region 0 [⟨(some 110), .mv (.tmp 21), none⟩,
            ⟨(some 111), .bin .neq (.tmp 110) (.const (.int .i64 80)), none⟩,
            ⟨(some 112), .mv (.tmp 111), none⟩,
            ⟨(some 113), .mv (.tmp 20), (some (112, false))⟩,
            ⟨(some 114), .mv (.tmp 1), (some (112, false))⟩,
            ⟨(some 115), .bin .lss (.tmp 113) (.tmp 114), (some (112, false))⟩,
            ⟨(some 116), .pick (.tmp 112) (.const (.bool true)) (.tmp 115), none⟩]) (
          .cond (.tmp 116) (
            .seq (.region 0 [⟨(some 10), .mv (.const (.bool false)), none⟩]) (
            .ret)) (
            .skip))) (
          .exit 2)) (
          .skip))) (
        .seq (.region 0 [⟨(some 117), .mv (.tmp 20), none⟩,
          ⟨(some 118), .bin .add (.tmp 117) (.const (.int .i64 1)), none⟩,
          ⟨(some 19), .mv (.tmp 118), none⟩]) (
        .seq (.region 0 [⟨(some 119), .mv (.tmp 20), none⟩,
          ⟨(some 120), .mv (.tmp 1), none⟩,
          ⟨(some 121), .bin .lss (.tmp 119) (.tmp 120), none⟩]) (
        .cond (.tmp 121) (
          .seq (.seq (.region 0 [⟨(some 122), .mv (.tmp 15), none⟩,
            ⟨(some 123), .call (.func 20) [(.tmp 122)], none⟩,
            ⟨(some 124), .bin .neq (.tmp 123) (.const (.int .i64 0)), none⟩]) (
          .cond (.tmp 124) (
            .seq (.region 0 [⟨(some 10), .mv (.const (.bool false)), none⟩]) (
            .ret)) (
            .skip))) (
          .region 0 [⟨(some 125), .mv (.tmp 19), none⟩,
            ⟨(some 18), .mv (.tmp 125), none⟩])) (
          .skip)))))))) (
      .region 0 [⟨(some 91), .mv (.tmp 20), none⟩,
        ⟨(some 92), .bin .add (.tmp 91) (.const (.int .i64 1)), none⟩,
        ⟨(some 20), .mv (.tmp 92), none⟩])))))) (
  .seq (.region 0 [⟨(some 126), .mv (.tmp 13), none⟩,
    ⟨(some 127), .mv (.tmp 3), none⟩,
    ⟨(some 128), .call (.func 12) [(.tmp 126), (.tmp 127)], none⟩]) (
  .seq (.region 0 [⟨(some 130), .mv (.tmp 13), none⟩,
    ⟨(some 131), .call (.func 18) [(.tmp 130)], none⟩,
    ⟨(some 129), .mv (.tmp 131), none⟩,
    ⟨(some 132), .extr (.tmp 129) 0, none⟩,
    ⟨(some 133), .extr (.tmp 129) 1, none⟩,
    ⟨(some 134), .extr (.tmp 129) 2, none⟩,
    ⟨(some 22), .mv (.tmp 132), none⟩,
    ⟨(some 23), .mv (.tmp 133), none⟩,
    ⟨(some 24), .mv (.tmp 134), none⟩]) (
  .seq (.region 0 [⟨(some 135), .mv (.tmp 13), none⟩,
    ⟨(some 136), .mv (.tmp 4), none⟩,
    ⟨(some 137), .call (.func 12) [(.tmp 135), (.tmp 136)], none⟩]) (
  .seq (.region 0 [⟨(some 139), .mv (.tmp 13), none⟩,
    ⟨(some 140), .call (.func 18) [(.tmp 139)], none⟩,
    ⟨(some 138), .mv (.tmp 140), none⟩,
    ⟨(some 141), .extr (.tmp 138) 0, none⟩,
    ⟨(some 142), .extr (.tmp 138) 1, none⟩,
    ⟨(some 143), .extr (.tmp 138) 2, none⟩,
    ⟨(some 25), .mv (.tmp 141), none⟩,
    ⟨(some 26), .mv (.tmp 142), none⟩,
    ⟨(some 27), .mv (.tmp 143), none⟩]) (
  .seq (.seq (.region 0 [⟨(some 144), .mv (.tmp 24), none⟩,
    ⟨(some 145), .bin .neq (.tmp 144) (.const (.int .i64 0)), none⟩,
    ⟨(some 146), .mv (.tmp 145), none⟩,
    ⟨(some 147), .mv (.tmp 27), (some (146, false))⟩,
    ⟨(some 148), .bin .neq (.tmp 147) (.const (.int .i64 0)), (some (146, false))⟩,
    ⟨(some 149), .pick (.tmp 146) (.const (.bool true)) (.tmp 148), none⟩,
    ⟨(some 150), .mv (.tmp 149), none⟩,
    ⟨(some 151), .mv (.tmp 25), (some (150, false))⟩,
    ⟨(some 152), .eqn .ptr false (.tmp 151) (.const (.pointer none)), (some (150, false))⟩,
    ⟨(some 153), .pick (.tmp 150) (.const (.bool true)) (.tmp 152), none⟩,
    ⟨(some 154), .mv (.tmp 153), none⟩,
    ⟨(some 155), .mv (.tmp 23), (some (154, false))⟩,
    ⟨(some 156), .ln (.tmp 155), (some (154, false))⟩,
    ⟨(some 157), .mv (.tmp 18), (some (154, false))⟩,
    ⟨(some 158), .bin .lss (.tmp 156) (.tmp 157), (some (154, false))⟩,
    ⟨(some 159), .pick (.tmp 154) (.const (.bool true)) (.tmp 158), none⟩,
    ⟨(some 160), .mv (.tmp 159), none⟩,
    ⟨(some 161), .mv (.tmp 23), (some (160, false))⟩,
    ⟨(some 162), .ln (.tmp 161), (some (160, false))⟩,
    ⟨(some 163), .mv (.tmp 19), (some (160, false))⟩,
    ⟨(some 164), .bin .add (.tmp 163) (.const (.int .i64 1)), (some (160, false))⟩,
    ⟨(some 165), .bin .gtr (.tmp 162) (.tmp 164), (some (160, false))⟩,
    ⟨(some 166), .pick (.tmp 160) (.const (.bool true)) (.tmp 165), none⟩,
    ⟨(some 167), .mv (.tmp 166), none⟩,
    ⟨(some 168), .mv (.tmp 23), (some (167, false))⟩,
    ⟨(some 169), .ln (.tmp 168), (some (167, false))⟩,
    ⟨(some 170), .mv (.tmp 0), (some (167, false))⟩,
    ⟨(some 171), .ln (.tmp 170), (some (167, false))⟩,
    ⟨(some 172), .bin .gtr (.tmp 169) (.tmp 171), (some (167, false))⟩,
    ⟨(some 173), .pick (.tmp 167) (.const (.bool true)) (.tmp 172), none⟩]) (
  .cond (.tmp 173) (
    .seq (.region 0 [⟨(some 10), .mv (.const (.bool false)), none⟩]) (
    .ret)) (
    .skip))) (
  .seq (.region 0 [⟨(some 174), .call (.func 21) [], none⟩,
    ⟨(some 175), .mv (.tmp 174), none⟩,
    ⟨(some 176), .mv (.tmp 23), (some (175, true))⟩,
    ⟨(some 177), .mv (.tmp 0), (some (175, true))⟩,
    ⟨(some 178), .mv (.tmp 23), (some (175, true))⟩,
    ⟨(some 179), .ln (.tmp 178), (some (175, true))⟩,
    ⟨(some 180), .slc 9 1 (.tmp 177) none (some (.tmp 179)) none, (some (175, true))⟩,
    ⟨(some 181), .call (.func 22) [(.tmp 176), (.tmp 180)], (some (175, true))⟩,
    ⟨(some 182), .pick (.tmp 175) (.tmp 181) (.const (.bool false)), none⟩,
    ⟨(some 183), .mv (.tmp 182), none⟩,
    ⟨(some 184), .mv (.tmp 26), (some (183, true))⟩,
    ⟨(some 185), .mv (.tmp 23), (some (183, true))⟩,
    ⟨(some 186), .call (.func 22) [(.tmp 184), (.tmp 185)], (some (183, true))⟩,
    ⟨(some 187), .pick (.tmp 183) (.tmp 186) (.const (.bool false)), none⟩,
    ⟨(some 10), .mv (.tmp 187), none⟩]) (
  .ret))))))))))))))))⟩

/-- sennet/sennetlaw08.PostJournal -/
def f7 : IFn := ⟨170, [.tmp 4],
  .seq (.region 0 [⟨(some 4), .mv (.const (.bool false)), none⟩]) (
  .seq (.seq (.region 0 [⟨(some 20), .mv (.tmp 1), none⟩,
    ⟨(some 21), .call (.func 24) [(.tmp 20)], none⟩,
    ⟨(some 22), .un .not (.tmp 21), none⟩]) (
  .cond (.tmp 22) (
    .seq (.region 0 [⟨(some 23), .call (.func 21) [], none⟩,
      ⟨(some 4), .mv (.tmp 23), none⟩]) (
    .ret)) (
    .skip))) (
  .seq (.region 0 [⟨(some 24), .mv (.tmp 0), none⟩,
    ⟨(some 25), .conv .u64 (.tmp 24), none⟩,
    ⟨(some 26), .bin .rem (.tmp 25) (.const (.int .u64 2000)), none⟩,
    ⟨(some 27), .conv .i64 (.tmp 26), none⟩,
    ⟨(some 28), .bin .add (.const (.int .i64 16)) (.tmp 27), none⟩,
    ⟨(some 5), .mv (.tmp 28), none⟩]) (
  .seq (.region 0 [⟨(some 30), .mv (.tmp 5), none⟩,
    ⟨(some 31), .call (.func 9) [(.tmp 30)], none⟩,
    ⟨(some 29), .mv (.tmp 31), none⟩,
    ⟨(some 32), .extr (.tmp 29) 0, none⟩,
    ⟨(some 33), .extr (.tmp 29) 1, none⟩,
    ⟨(some 6), .mv (.tmp 32), none⟩,
    ⟨(some 7), .mv (.tmp 33), none⟩]) (
  .seq (.region 1 [⟨(some 34), .build [(.slice none 0 0), (.int .i64 0), (.bool false), (.string ⟨#[]⟩)] [], none⟩,
    ⟨(some 35), .box 61 (.tmp 34), none⟩,
    ⟨(some 8), .mv (.tmp 35), none⟩]) (
  .seq (.seq (.region 0 [⟨(some 36), .mv (.tmp 7), none⟩,
    ⟨(some 37), .bin .neq (.tmp 36) (.const (.int .i64 0)), none⟩]) (
  .cond (.tmp 37) (
    .seq (.region 0 [⟨(some 4), .mv (.const (.bool false)), none⟩]) (
    .ret)) (
    .skip))) (
  .seq (.region 0 [⟨(some 39), .mv (.tmp 6), none⟩,
    ⟨(some 40), .mv (.tmp 8), none⟩,
    ⟨(some 41), .call (.func 25) [(.tmp 39), (.tmp 40), (.const (.bool false))], none⟩,
    ⟨(some 38), .mv (.tmp 41), none⟩,
    ⟨(some 42), .extr (.tmp 38) 0, none⟩,
    ⟨(some 43), .extr (.tmp 38) 1, none⟩,
    ⟨(some 9), .mv (.tmp 42), none⟩,
    ⟨(some 10), .mv (.tmp 43), none⟩]) (
  .seq (.seq (.region 0 [⟨(some 44), .mv (.tmp 10), none⟩,
    ⟨(some 45), .un .not (.tmp 44), none⟩,
    ⟨(some 46), .mv (.tmp 45), none⟩,
    ⟨(some 47), .mv (.tmp 9), (some (46, false))⟩,
    ⟨(some 48), .eqn .ptr false (.tmp 47) (.const (.pointer none)), (some (46, false))⟩,
    ⟨(some 49), .pick (.tmp 46) (.const (.bool true)) (.tmp 48), none⟩]) (
  .cond (.tmp 49) (
    .seq (.region 0 [⟨(some 4), .mv (.const (.bool false)), none⟩]) (
    .ret)) (
    .skip))) (
  .seq (.seq (.region 0 [⟨(some 11), .mv (.const (.int .i64 0)), none⟩]) (
  .block 0 (
    .loop (
      .seq (.seq (.region 0 [⟨(some 50), .mv (.tmp 11), none⟩,
        ⟨(some 51), .mv (.tmp 1), none⟩,
        ⟨(some 52), .ln (.tmp 51), none⟩,
        ⟨(some 53), .bin .lss (.tmp 50) (.tmp 52), none⟩]) (
      .cond (.tmp 53) (
        .skip) (
        .exit 0))) (
      .seq (.block 1 (
        .seq (.region 1 [⟨(some 56), .mv (.tmp 1), none⟩,
          ⟨(some 57), .mv (.tmp 11), none⟩,
          ⟨(some 58), .idxA none 4 (.tmp 56) (.tmp 57), none⟩,
          ⟨(some 59), .load (some 4) (.tmp 58), none⟩,
          ⟨(some 12), .alloc 65 [(.int .u8 0), (.string ⟨#[]⟩), (.int .i64 0), (.slice none 0 0)], none⟩,
          ⟨none, .store 4 (.tmp 12) (.tmp 59), none⟩]) (
        .seq (.seq (.region 0 [⟨(some 60), .fldA 0 (.tmp 12), none⟩,
          ⟨(some 61), .load none (.tmp 60), none⟩,
          ⟨(some 62), .bin .rem (.tmp 61) (.const (.int .u8 5)), none⟩]) (
        .block 2 (
          .seq (.region 0 [⟨(some 78), .bin .eql (.tmp 62) (.const (.int .u8 0)), none⟩,
            ⟨(some 77), .mv (.tmp 78), none⟩]) (
          .cond (.tmp 77) (
            .seq (.draw 0 [⟨0, 0, 0, ⟨(some 79), .mv (.tmp 6), none⟩⟩,
              ⟨1, 0, 0, ⟨(some 80), .mv (.tmp 9), none⟩⟩,
              ⟨2, 0, 0, ⟨(some 81), .mv (.tmp 8), none⟩⟩,
              ⟨3, 0, 0, ⟨(some 82), .fldA 1 (.tmp 12), none⟩⟩,
              ⟨4, 0, 8, ⟨(some 83), .load none (.tmp 82), none⟩⟩,
              ⟨5, 0, 0, ⟨(some 84), .mv (.tmp 8), none⟩⟩,
              ⟨7, 0, 0, ⟨(some 86), .mv (.tmp 5), none⟩⟩,
              ⟨8, 0, 128, ⟨(some 87), .bin .quo (.tmp 86) (.const (.int .i64 2)), none⟩⟩,
              ⟨6, 0, 32, ⟨(some 85), .call (.func 27) [(.tmp 84)], none⟩⟩,
              ⟨9, 0, 511, ⟨(some 88), .call (.func 26) [(.tmp 79), (.tmp 80), (.tmp 81), (.tmp 83), (.tmp 85), (.tmp 87)], none⟩⟩,
              ⟨10, 0, 1023, ⟨(some 89), .un .not (.tmp 88), none⟩⟩]) (
            .cond (.tmp 89) (
              .seq (.region 0 [⟨(some 4), .mv (.const (.bool false)), none⟩]) (
              .ret)) (
              .skip))) (
            .seq (.region 0 [⟨(some 91), .bin .eql (.tmp 62) (.const (.int .u8 1)), none⟩,
              ⟨(some 90), .mv (.tmp 91), none⟩]) (
            .cond (.tmp 90) (
              .seq (.region 0 [⟨(some 92), .mv (.tmp 9), none⟩,
                ⟨(some 93), .call (.func 20) [(.tmp 92)], none⟩,
                ⟨(some 13), .mv (.tmp 93), none⟩]) (
              .seq (.seq (.region 0 [⟨(some 94), .mv (.tmp 13), none⟩,
                ⟨(some 95), .bin .neq (.tmp 94) (.const (.int .i64 0)), none⟩,
                ⟨(some 96), .mv (.tmp 95), none⟩,
                ⟨(some 97), .mv (.tmp 13), (some (96, true))⟩,
                ⟨(some 98), .bin .neq (.tmp 97) (.const (.int .i64 80)), (some (96, true))⟩,
                ⟨(some 99), .mv (.tmp 98), (some (96, true))⟩,
                ⟨(some 100), .mv (.tmp 6), (some (99, false))⟩,
                ⟨(some 101), .call (.func 14) [(.tmp 100)], (some (99, false))⟩,
                ⟨(some 102), .un .not (.tmp 101), (some (99, false))⟩,
                ⟨(some 103), .pick (.tmp 99) (.const (.bool true)) (.tmp 102), (some (96, true))⟩,
                ⟨(some 104), .pick (.tmp 96) (.tmp 103) (.const (.bool false)), none⟩]) (
              .cond (.tmp 104) (
                .seq (.region 0 [⟨(some 4), .mv (.const (.bool false)), none⟩]) (
                .ret)) (
                .skip))) (
              .seq (.region 0 [⟨(some 105), .mv (.tmp 13), none⟩,
                ⟨(some 106), .bin .eql (.tmp 105) (.const (.int .i64 0)), none⟩]) (
              .cond (.tmp 106) (
                .region 0 [⟨(some 107), .mv (.tmp 8), none⟩,
                  ⟨(some 108), .mv (.tmp 8), none⟩,
                  ⟨(some 109), .nilc (.tmp 108), none⟩,
                  ⟨(some 110), .fldA 0 (.tmp 109), none⟩,
                  ⟨(some 111), .load none (.tmp 110), none⟩,
                  ⟨(some 112), .ln (.tmp 111), none⟩,
                  ⟨(some 113), .nilc (.tmp 107), none⟩,
                  ⟨(some 114), .fldA 1 (.tmp 113), none⟩,
                  ⟨none, .store 1 (.tmp 114) (.tmp 112), none⟩]) (
                .skip))))) (
              .seq (.region 0 [⟨(some 116), .bin .eql (.tmp 62) (.const (.int .u8 2)), none⟩,
                ⟨(some 115), .mv (.tmp 116), none⟩]) (
              .cond (.tmp 115) (
                .region 0 [⟨(some 117), .mv (.tmp 6), none⟩,
                  ⟨(some 118), .fldA 2 (.tmp 12), none⟩,
                  ⟨(some 119), .load none (.tmp 118), none⟩,
                  ⟨(some 120), .call (.func 23) [(.tmp 117), (.tmp 119)], none⟩]) (
                .seq (.region 0 [⟨(some 122), .bin .eql (.tmp 62) (.const (.int .u8 3)), none⟩,
                  ⟨(some 121), .mv (.tmp 122), none⟩]) (
                .cond (.tmp 121) (
                  .seq (.region 0 [⟨(some 123), .mv (.tmp 6), none⟩,
                    ⟨(some 124), .fldA 3 (.tmp 12), none⟩,
                    ⟨(some 125), .load none (.tmp 124), none⟩,
                    ⟨(some 126), .call (.func 12) [(.tmp 123), (.tmp 125)], none⟩]) (
                  .seq (.seq (.region 0 [⟨(some 127), .fldA 2 (.tmp 12), none⟩,
                    ⟨(some 128), .load none (.tmp 127), none⟩,
                    ⟨(some 129), .bin .gtr (.tmp 128) (.const (.int .i64 0)), none⟩]) (
                  .cond (.tmp 129) (
                    .seq (.region 0 [⟨(some 130), .mv (.tmp 6), none⟩,
                      ⟨(some 131), .fldA 2 (.tmp 12), none⟩,
                      ⟨(some 132), .load none (.tmp 131), none⟩,
                      ⟨(some 133), .bin .sub (.tmp 132) (.const (.int .i64 1)), none⟩,
                      ⟨(some 134), .call (.func 23) [(.tmp 130), (.tmp 133)], none⟩]) (
                    .seq (.region 0 [⟨(some 136), .mv (.tmp 6), none⟩,
                      ⟨(some 137), .mv (.tmp 8), none⟩,
                      ⟨(some 138), .call (.func 25) [(.tmp 136), (.tmp 137), (.const (.bool true))], none⟩,
                      ⟨(some 135), .mv (.tmp 138), none⟩,
                      ⟨(some 139), .extr (.tmp 135) 0, none⟩,
                      ⟨(some 140), .extr (.tmp 135) 1, none⟩,
                      ⟨(some 14), .mv (.tmp 139), none⟩,
                      ⟨(some 15), .mv (.tmp 140), none⟩]) (
                    .seq (.seq (.region 0 [⟨(some 141), .mv (.tmp 15), none⟩,
                      ⟨(some 142), .un .not (.tmp 141), none⟩]) (
                    .cond (.tmp 142) (
                      .seq (.region 0 [⟨(some 4), .mv (.const (.bool false)), none⟩]) (
                      .ret)) (
                      .skip))) (
                    .seq (.region 0 [⟨(some 143), .mv (.tmp 14), none⟩,
                      ⟨(some 9), .mv (.tmp 143), none⟩]) (
                    .region 0 [⟨(some 144), .mv (.tmp 6), none⟩,
                      ⟨(some 145), .fldA 3 (.tmp 12), none⟩,
                      ⟨(some 146), .load none (.tmp 145), none⟩,
                      ⟨(some 147), .call (.func 12) [(.tmp 144), (.tmp 146)], none⟩]))))) (
                    .skip))) (
                  .seq (.region 0 [⟨(some 149), .mv (.tmp 6), none⟩,
                    ⟨(some 150), .mv (.tmp 8), none⟩,
                    ⟨(some 151), .call (.func 25) [(.tmp 149), (.tmp 150), (.const (.bool true))], none⟩,
                    ⟨(some 148), .mv (.tmp 151), none⟩,
                    ⟨(some 152), .extr (.tmp 148) 0, none⟩,
                    ⟨(some 153), .extr (.tmp 148) 1, none⟩,
                    ⟨(some 16), .mv (.tmp 152), none⟩,
                    ⟨(some 17), .mv (.tmp 153), none⟩]) (
                  .seq (.seq (.region 0 [⟨(some 154), .mv (.tmp 17), none⟩,
                    ⟨(some 155), .un .not (.tmp 154), none⟩,
                    ⟨(some 156), .mv (.tmp 155), none⟩,
                    ⟨(some 157), .mv (.tmp 16), (some (156, false))⟩,
                    ⟨(some 158), .eqn .ptr false (.tmp 157) (.const (.pointer none)), (some (156, false))⟩,
                    ⟨(some 159), .pick (.tmp 156) (.const (.bool true)) (.tmp 158), none⟩]) (
                  .cond (.tmp 159) (
                    .seq (.region 0 [⟨(some 4), .mv (.const (.bool false)), none⟩]) (
                    .ret)) (
                    .skip))) (
                  .region 0 [⟨(some 160), .mv (.tmp 16), none⟩,
                    ⟨(some 9), .mv (.tmp 160), none⟩]))))) (
                  .seq (.region 0 [⟨(some 63), .mv (.tmp 6), none⟩,
                    ⟨(some 64), .call (.func 14) [(.tmp 63)], none⟩,
                    ⟨(some 65), .un .not (.tmp 64), none⟩]) (
                  .cond (.tmp 65) (
                    .seq (.region 0 [⟨(some 67), .mv (.tmp 6), none⟩,
                      ⟨(some 68), .mv (.tmp 8), none⟩,
                      ⟨(some 69), .call (.func 25) [(.tmp 67), (.tmp 68), (.const (.bool false))], none⟩,
                      ⟨(some 66), .mv (.tmp 69), none⟩,
                      ⟨(some 70), .extr (.tmp 66) 0, none⟩,
                      ⟨(some 71), .extr (.tmp 66) 1, none⟩,
                      ⟨(some 18), .mv (.tmp 70), none⟩,
                      ⟨(some 19), .mv (.tmp 71), none⟩]) (
                    .seq (.seq (.region 0 [⟨(some 72), .mv (.tmp 19), none⟩,
                      ⟨(some 73), .un .not (.tmp 72), none⟩]) (
                    .cond (.tmp 73) (
                      .seq (.region 0 [⟨(some 4), .mv (.const (.bool false)), none⟩]) (
                      .ret)) (
                      .skip))) (
                    .seq (.region 0 [⟨(some 74), .mv (.tmp 18), none⟩,
                      ⟨(some 75), .eqn .ptr true (.tmp 74) (.const (.pointer none)), none⟩]) (
                    .cond (.tmp 75) (
                      .region 0 [⟨(some 76), .mv (.tmp 18), none⟩,
                        ⟨(some 9), .mv (.tmp 76), none⟩]) (
                      .skip))))) (
                    .skip))))))))))))) (
        .seq (.draw 0 [⟨0, 0, 0, ⟨(some 161), .mv (.tmp 9), none⟩⟩,
          ⟨2, 0, 0, ⟨(some 163), .mv (.tmp 8), none⟩⟩,
          ⟨3, 0, 4, ⟨(some 164), .nilc (.tmp 163), none⟩⟩,
          ⟨4, 0, 12, ⟨(some 165), .fldA 0 (.tmp 164), none⟩⟩,
          ⟨5, 0, 28, ⟨(some 166), .load none (.tmp 165), none⟩⟩,
          ⟨6, 0, 60, ⟨(some 167), .ln (.tmp 166), none⟩⟩,
          ⟨1, 0, 1, ⟨(some 162), .call (.func 28) [(.tmp 161)], none⟩⟩,
          ⟨7, 0, 127, ⟨(some 168), .bin .neq (.tmp 162) (.tmp 167), none⟩⟩]) (
        .cond (.tmp 168) (
          .seq (.region 0 [⟨(some 4), .mv (.const (.bool false)), none⟩]) (
          .ret)) (
          .skip)))))) (
      .region 0 [⟨(some 54), .mv (.tmp 11), none⟩,
        ⟨(some 55), .bin .add (.tmp 54) (.const (.int .i64 1)), none⟩,
        ⟨(some 11), .mv (.tmp 55), none⟩])))))) (
  .seq (.region 0 [⟨(some 169), .call (.func 21) [], none⟩,
    ⟨(some 4), .mv (.tmp 169), none⟩]) (
  .ret))))))))))⟩

/-- sennet/sennetlaw08.disks -/
def f8 : IFn := ⟨71, [.tmp 0],
  .seq (.region 0 [⟨(some 0), .mv (.const (.bool false)), none⟩]) (
  .seq (.region 0 [⟨(some 11), .call (.func 9) [(.const (.int .i64 15))], none⟩,
    ⟨(some 10), .mv (.tmp 11), none⟩,
    ⟨(some 12), .extr (.tmp 10) 0, none⟩,
    ⟨(some 13), .extr (.tmp 10) 1, none⟩,
    ⟨(some 1), .mv (.tmp 12), none⟩,
    ⟨(some 2), .mv (.tmp 13), none⟩]) (
  .seq (.region 0 [⟨(some 15), .call (.func 9) [(.const (.int .i64 16))], none⟩,
    ⟨(some 14), .mv (.tmp 15), none⟩,
    ⟨(some 16), .extr (.tmp 14) 0, none⟩,
    ⟨(some 17), .extr (.tmp 14) 1, none⟩,
    ⟨(some 3), .mv (.tmp 16), none⟩,
    ⟨(some 4), .mv (.tmp 17), none⟩]) (
  .seq (.seq (.region 0 [⟨(some 18), .mv (.tmp 2), none⟩,
    ⟨(some 19), .bin .neq (.tmp 18) (.const (.int .i64 1)), none⟩,
    ⟨(some 20), .mv (.tmp 19), none⟩,
    ⟨(some 21), .mv (.tmp 4), (some (20, false))⟩,
    ⟨(some 22), .bin .neq (.tmp 21) (.const (.int .i64 0)), (some (20, false))⟩,
    ⟨(some 23), .pick (.tmp 20) (.const (.bool true)) (.tmp 22), none⟩,
    ⟨(some 24), .mv (.tmp 23), none⟩,
    ⟨(some 25), .mv (.tmp 3), (some (24, false))⟩,
    ⟨(some 26), .eqn .ptr false (.tmp 25) (.const (.pointer none)), (some (24, false))⟩,
    ⟨(some 27), .pick (.tmp 24) (.const (.bool true)) (.tmp 26), none⟩]) (
  .cond (.tmp 27) (
    .seq (.region 0 [⟨(some 0), .mv (.const (.bool false)), none⟩]) (
    .ret)) (
    .skip))) (
  .seq (.region 1 [⟨(some 28), .mv (.tmp 3), none⟩,
    ⟨(some 29), .bslice 5 1 [(.int .u8 0), (.int .u8 0), (.int .u8 0)] 3 [(0, 1, (.const (.int .u8 97))), (1, 1, (.const (.int .u8 98))), (2, 1, (.const (.int .u8 99)))], none⟩,
    ⟨(some 30), .cvb (.tmp 29), none⟩,
    ⟨(some 31), .call (.func 10) [(.tmp 28), (.const (.int .i64 0)), (.tmp 30)], none⟩,
    ⟨(some 5), .mv (.tmp 31), none⟩]) (
  .seq (.region 0 [⟨(some 32), .mv (.tmp 3), none⟩,
    ⟨(some 33), .call (.func 11) [(.tmp 32)], none⟩,
    ⟨(some 6), .mv (.tmp 33), none⟩]) (
  .seq (.region 1 [⟨(some 34), .mv (.tmp 3), none⟩,
    ⟨(some 35), .bslice 5 1 [(.int .u8 0), (.int .u8 0), (.int .u8 0)] 3 [(0, 1, (.const (.int .u8 120))), (1, 1, (.const (.int .u8 121))), (2, 1, (.const (.int .u8 122)))], none⟩,
    ⟨(some 36), .cvb (.tmp 35), none⟩,
    ⟨(some 37), .call (.func 10) [(.tmp 34), (.const (.int .i64 0)), (.tmp 36)], none⟩,
    ⟨(some 7), .mv (.tmp 37), none⟩]) (
  .seq (.region 1 [⟨(some 38), .mv (.tmp 3), none⟩,
    ⟨(some 39), .bslice 3 1 [(.int .i64 0)] 1 [(0, 1, (.const (.int .i64 1)))], none⟩,
    ⟨(some 40), .call (.func 12) [(.tmp 38), (.tmp 39)], none⟩]) (
  .seq (.region 0 [⟨(some 42), .mv (.tmp 3), none⟩,
    ⟨(some 43), .call (.func 13) [(.tmp 42), (.const (.int .i64 0))], none⟩,
    ⟨(some 41), .mv (.tmp 43), none⟩,
    ⟨(some 44), .extr (.tmp 41) 0, none⟩,
    ⟨(some 45), .extr (.tmp 41) 1, none⟩,
    ⟨(some 8), .mv (.tmp 44), none⟩,
    ⟨(some 9), .mv (.tmp 45), none⟩]) (
  .seq (.region 0 [⟨(some 46), .mv (.tmp 5), none⟩,
    ⟨(some 47), .bin .eql (.tmp 46) (.const (.int .i64 0)), none⟩,
    ⟨(some 48), .mv (.tmp 47), none⟩,
    ⟨(some 49), .mv (.tmp 6), (some (48, true))⟩,
    ⟨(some 50), .bin .eql (.tmp 49) (.const (.int .i64 0)), (some (48, true))⟩,
    ⟨(some 51), .pick (.tmp 48) (.tmp 50) (.const (.bool false)), none⟩,
    ⟨(some 52), .mv (.tmp 51), none⟩,
    ⟨(some 53), .mv (.tmp 7), (some (52, true))⟩,
    ⟨(some 54), .bin .eql (.tmp 53) (.const (.int .i64 0)), (some (52, true))⟩,
    ⟨(some 55), .pick (.tmp 52) (.tmp 54) (.const (.bool false)), none⟩,
    ⟨(some 56), .mv (.tmp 55), none⟩,
    ⟨(some 57), .mv (.tmp 9), (some (56, true))⟩,
    ⟨(some 58), .bin .eql (.tmp 57) (.const (.int .i64 0)), (some (56, true))⟩,
    ⟨(some 59), .pick (.tmp 56) (.tmp 58) (.const (.bool false)), none⟩,
    ⟨(some 60), .mv (.tmp 59), none⟩,
    ⟨(some 61), .mv (.tmp 8), (some (60, true))⟩,
    ⟨(some 62), .ln (.tmp 61), (some (60, true))⟩,
    ⟨(some 63), .bin .eql (.tmp 62) (.const (.int .i64 64)), (some (60, true))⟩,
    ⟨(some 64), .pick (.tmp 60) (.tmp 63) (.const (.bool false)), none⟩,
    ⟨(some 65), .mv (.tmp 64), none⟩,
    ⟨(some 66), .mv (.tmp 8), (some (65, true))⟩,
    ⟨(some 67), .slc 5 1 (.tmp 66) none (some (.const (.int .i64 4))) none, (some (65, true))⟩,
    ⟨(some 68), .b2s (.tmp 67), (some (65, true))⟩,
    ⟨(some 69), .bin .eql (.tmp 68) (.const (.string ⟨#[120, 98, 99, 0]⟩)), (some (65, true))⟩,
    ⟨(some 70), .pick (.tmp 65) (.tmp 69) (.const (.bool false)), none⟩,
    ⟨(some 0), .mv (.tmp 70), none⟩]) (
  .ret))))))))))⟩

/-- sennet/post.NewDisk -/
def f9 : IFn := ⟨16, [.tmp 2, .tmp 3],
  .seq (.region 0 [⟨(some 2), .mv (.const (.pointer none)), none⟩,
    ⟨(some 3), .mv (.const (.int .i64 0)), none⟩]) (
  .seq (.seq (.region 0 [⟨(some 4), .mv (.tmp 0), none⟩,
    ⟨(some 5), .bin .lss (.tmp 4) (.const (.int .i64 16)), none⟩,
    ⟨(some 6), .mv (.tmp 5), none⟩,
    ⟨(some 7), .mv (.tmp 0), (some (6, false))⟩,
    ⟨(some 8), .bin .gtr (.tmp 7) (.const (.int .i64 65536)), (some (6, false))⟩,
    ⟨(some 9), .pick (.tmp 6) (.const (.bool true)) (.tmp 8), none⟩]) (
  .cond (.tmp 9) (
    .seq (.region 0 [⟨(some 2), .mv (.const (.pointer none)), none⟩,
      ⟨(some 3), .mv (.const (.int .i64 1)), none⟩]) (
    .ret)) (
    .skip))) (
  .seq (.draw 3 [⟨0, 0, 0, ⟨(some 10), .mv (.tmp 0), none⟩⟩,
    ⟨1, 0, 1, ⟨(some 11), .mksl 75 64 64 (reps 64 (.int .u8 0)) (.tmp 10) (.tmp 10), none⟩⟩,
    ⟨2, 1, 0, ⟨(some 12), .mv (.tmp 0), none⟩⟩,
    ⟨3, 1, 4, ⟨(some 13), .mksl 75 64 64 (reps 64 (.int .u8 0)) (.tmp 12) (.tmp 12), none⟩⟩,
    ⟨4, 2, 15, ⟨(some 14), .build [(.slice none 0 0), (.slice none 0 0), (.slice none 0 0), (.bool false), (.int .i64 0)] [(0, 1, (.tmp 11)), (1, 1, (.tmp 13)), (4, 1, (.const (.int .i64 (-1))))], none⟩⟩,
    ⟨5, 2, 31, ⟨(some 15), .box 73 (.tmp 14), none⟩⟩,
    ⟨6, 3, 63, ⟨(some 2), .mv (.tmp 15), none⟩⟩,
    ⟨7, 3, 127, ⟨(some 3), .mv (.const (.int .i64 0)), none⟩⟩]) (
  .ret)))⟩

/-- (*sennet/post.Disk).Write -/
def f10 : IFn := ⟨43, [.tmp 6],
  .seq (.region 0 [⟨(some 6), .mv (.const (.int .i64 0)), none⟩]) (
  .seq (.seq (.region 0 [⟨(some 9), .mv (.tmp 0), none⟩,
    ⟨(some 10), .mv (.tmp 1), none⟩,
    ⟨(some 11), .call (.func 29) [(.tmp 9), (.tmp 10)], none⟩,
    ⟨(some 7), .mv (.tmp 11), none⟩]) (
  .seq (.region 0 [⟨(some 12), .mv (.tmp 7), none⟩,
    ⟨(some 13), .bin .neq (.tmp 12) (.const (.int .i64 0)), none⟩]) (
  .cond (.tmp 13) (
    .seq (.region 0 [⟨(some 14), .mv (.tmp 7), none⟩,
      ⟨(some 6), .mv (.tmp 14), none⟩]) (
    .ret)) (
    .skip)))) (
  .seq (.seq (.region 0 [⟨(some 15), .mv (.tmp 2), none⟩,
    ⟨(some 16), .ln (.tmp 15), none⟩,
    ⟨(some 17), .bin .gtr (.tmp 16) (.const (.int .i64 64)), none⟩]) (
  .cond (.tmp 17) (
    .seq (.region 0 [⟨(some 6), .mv (.const (.int .i64 2)), none⟩]) (
    .ret)) (
    .skip))) (
  .seq (.seq (.region 0 [⟨(some 18), .mv (.tmp 0), none⟩,
    ⟨(some 19), .call (.func 30) [(.tmp 18)], none⟩,
    ⟨(some 20), .un .not (.tmp 19), none⟩]) (
  .cond (.tmp 20) (
    .seq (.region 0 [⟨(some 6), .mv (.const (.int .i64 80)), none⟩]) (
    .ret)) (
    .skip))) (
  .seq (.region 1 [⟨(some 8), .alloc 75 (reps 64 (.int .u8 0)), none⟩]) (
  .seq (.region 0 [⟨(some 21), .aslc 64 1 (.tmp 8) none none none, none⟩,
    ⟨(some 22), .mv (.tmp 2), none⟩,
    ⟨(some 23), .cpy 1 (.tmp 21) (.tmp 22), none⟩]) (
  .seq (.draw 0 [⟨0, 0, 0, ⟨(some 24), .mv (.tmp 0), none⟩⟩,
    ⟨1, 0, 1, ⟨(some 25), .nilc (.tmp 24), none⟩⟩,
    ⟨2, 0, 3, ⟨(some 26), .fldA 1 (.tmp 25), none⟩⟩,
    ⟨3, 0, 7, ⟨(some 27), .load none (.tmp 26), none⟩⟩,
    ⟨4, 0, 0, ⟨(some 28), .mv (.tmp 1), none⟩⟩,
    ⟨5, 0, 0, ⟨(some 29), .load (some 64) (.tmp 8), none⟩⟩,
    ⟨6, 0, 63, ⟨(some 30), .idxA none 64 (.tmp 27) (.tmp 28), none⟩⟩,
    ⟨7, 0, 127, ⟨none, .store 64 (.tmp 30) (.tmp 29), none⟩⟩]) (
  .seq (.draw 2 [⟨0, 0, 0, ⟨(some 31), .mv (.tmp 0), none⟩⟩,
    ⟨1, 0, 0, ⟨(some 32), .mv (.tmp 0), none⟩⟩,
    ⟨2, 0, 2, ⟨(some 33), .nilc (.tmp 32), none⟩⟩,
    ⟨3, 0, 6, ⟨(some 34), .fldA 2 (.tmp 33), none⟩⟩,
    ⟨4, 0, 14, ⟨(some 35), .load none (.tmp 34), none⟩⟩,
    ⟨5, 0, 0, ⟨(some 36), .mv (.tmp 1), none⟩⟩,
    ⟨6, 0, 0, ⟨(some 37), .load (some 64) (.tmp 8), none⟩⟩,
    ⟨7, 0, 96, ⟨(some 38), .build ([(.int .i64 0)] ++ reps 64 (.int .u8 0)) [(0, 1, (.tmp 36)), (1, 64, (.tmp 37))], none⟩⟩,
    ⟨8, 0, 224, ⟨(some 39), .bslice 77 65 ([(.int .i64 0)] ++ reps 64 (.int .u8 0)) 1 [(0, 65, (.tmp 38))], none⟩⟩,
    ⟨9, 1, 510, ⟨(some 40), .app 77 65 72 ([(.int .i64 0)] ++ reps 64 (.int .u8 0)) (.tmp 35) (.tmp 39), none⟩⟩,
    ⟨10, 2, 1023, ⟨(some 41), .nilc (.tmp 31), none⟩⟩,
    ⟨11, 2, 2047, ⟨(some 42), .fldA 2 (.tmp 41), none⟩⟩,
    ⟨12, 2, 4095, ⟨none, .store 1 (.tmp 42) (.tmp 40), none⟩⟩]) (
  .seq (.region 0 [⟨(some 6), .mv (.const (.int .i64 0)), none⟩]) (
  .ret)))))))))⟩

/-- (*sennet/post.Disk).Flush -/
def f11 : IFn := ⟨36, [.tmp 2],
  .seq (.region 0 [⟨(some 2), .mv (.const (.int .i64 0)), none⟩]) (
  .seq (.seq (.region 0 [⟨(some 6), .mv (.tmp 0), none⟩,
    ⟨(some 7), .call (.func 31) [(.tmp 6)], none⟩,
    ⟨(some 3), .mv (.tmp 7), none⟩]) (
  .seq (.region 0 [⟨(some 8), .mv (.tmp 3), none⟩,
    ⟨(some 9), .bin .neq (.tmp 8) (.const (.int .i64 0)), none⟩]) (
  .cond (.tmp 9) (
    .seq (.region 0 [⟨(some 10), .mv (.tmp 3), none⟩,
      ⟨(some 2), .mv (.tmp 10), none⟩]) (
    .ret)) (
    .skip)))) (
  .seq (.seq (.region 0 [⟨(some 11), .mv (.tmp 0), none⟩,
    ⟨(some 12), .call (.func 30) [(.tmp 11)], none⟩,
    ⟨(some 13), .un .not (.tmp 12), none⟩]) (
  .cond (.tmp 13) (
    .seq (.region 0 [⟨(some 2), .mv (.const (.int .i64 80)), none⟩]) (
    .ret)) (
    .skip))) (
  .seq (.seq (.region 0 [⟨(some 14), .mv (.tmp 0), none⟩,
    ⟨(some 15), .nilc (.tmp 14), none⟩,
    ⟨(some 16), .fldA 2 (.tmp 15), none⟩,
    ⟨(some 17), .load none (.tmp 16), none⟩,
    ⟨(some 18), .ln (.tmp 17), none⟩,
    ⟨(some 19), .mv (.const (.int .i64 0)), none⟩]) (
  .block 0 (
    .loop (
      .seq (.region 0 [⟨(some 20), .bin .lss (.tmp 19) (.tmp 18), none⟩]) (
      .seq (.cond (.tmp 20) (
        .skip) (
        .exit 0)) (
      .seq (.block 1 (
        .seq (.region 1 [⟨(some 21), .idxA none 65 (.tmp 17) (.tmp 19), none⟩,
          ⟨(some 22), .load (some 65) (.tmp 21), none⟩,
          ⟨(some 5), .alloc 77 ([(.int .i64 0)] ++ reps 64 (.int .u8 0)), none⟩,
          ⟨none, .store 65 (.tmp 5) (.tmp 22), none⟩]) (
        .draw 0 [⟨0, 0, 0, ⟨(some 23), .mv (.tmp 0), none⟩⟩,
          ⟨1, 0, 1, ⟨(some 24), .nilc (.tmp 23), none⟩⟩,
          ⟨2, 0, 3, ⟨(some 25), .fldA 0 (.tmp 24), none⟩⟩,
          ⟨3, 0, 7, ⟨(some 26), .load none (.tmp 25), none⟩⟩,
          ⟨4, 0, 0, ⟨(some 27), .fldA 0 (.tmp 5), none⟩⟩,
          ⟨5, 0, 16, ⟨(some 28), .load none (.tmp 27), none⟩⟩,
          ⟨6, 0, 0, ⟨(some 29), .fldA 1 (.tmp 5), none⟩⟩,
          ⟨7, 0, 64, ⟨(some 30), .load (some 64) (.tmp 29), none⟩⟩,
          ⟨8, 0, 255, ⟨(some 31), .idxA none 64 (.tmp 26) (.tmp 28), none⟩⟩,
          ⟨9, 0, 511, ⟨none, .store 64 (.tmp 31) (.tmp 30), none⟩⟩]))) (
      .region 0 [⟨(some 32), .bin .add (.tmp 19) (.const (.int .i64 1)), none⟩,
        ⟨(some 19), .mv (.tmp 32), none⟩]))))))) (
  .seq (.region 0 [⟨(some 33), .mv (.tmp 0), none⟩,
    ⟨(some 34), .nilc (.tmp 33), none⟩,
    ⟨(some 35), .fldA 2 (.tmp 34), none⟩,
    ⟨none, .store 1 (.tmp 35) (.const (.slice none 0 0)), none⟩]) (
  .seq (.region 0 [⟨(some 2), .mv (.const (.int .i64 0)), none⟩]) (
  .ret))))))⟩

/-- (*sennet/post.Disk).Crash -/
def f12 : IFn := ⟨61, [],
  .seq (.seq (.region 0 [⟨(some 7), .mv (.tmp 0), none⟩,
    ⟨(some 8), .eqn .ptr false (.tmp 7) (.const (.pointer none)), none⟩]) (
  .cond (.tmp 8) (
    .ret) (
    .skip))) (
  .seq (.seq (.region 0 [⟨(some 9), .mv (.tmp 0), none⟩,
    ⟨(some 10), .nilc (.tmp 9), none⟩,
    ⟨(some 11), .fldA 2 (.tmp 10), none⟩,
    ⟨(some 12), .load none (.tmp 11), none⟩,
    ⟨(some 13), .ln (.tmp 12), none⟩,
    ⟨(some 14), .mv (.const (.int .i64 0)), none⟩]) (
  .block 0 (
    .loop (
      .seq (.region 0 [⟨(some 15), .bin .lss (.tmp 14) (.tmp 13), none⟩]) (
      .seq (.cond (.tmp 15) (
        .skip) (
        .exit 0)) (
      .seq (.block 1 (
        .seq (.region 1 [⟨(some 16), .mv (.tmp 14), none⟩,
          ⟨(some 17), .idxA none 65 (.tmp 12) (.tmp 14), none⟩,
          ⟨(some 18), .load (some 65) (.tmp 17), none⟩,
          ⟨(some 5), .alloc 77 ([(.int .i64 0)] ++ reps 64 (.int .u8 0)), none⟩,
          ⟨(some 4), .mv (.tmp 16), none⟩,
          ⟨none, .store 65 (.tmp 5) (.tmp 18), none⟩]) (
        .seq (.region 0 [⟨(some 6), .mv (.const (.int .i64 0)), none⟩]) (
        .seq (.seq (.region 0 [⟨(some 19), .mv (.tmp 4), none⟩,
          ⟨(some 20), .mv (.tmp 1), none⟩,
          ⟨(some 21), .ln (.tmp 20), none⟩,
          ⟨(some 22), .bin .lss (.tmp 19) (.tmp 21), none⟩]) (
        .cond (.tmp 22) (
          .region 0 [⟨(some 23), .mv (.tmp 1), none⟩,
            ⟨(some 24), .mv (.tmp 4), none⟩,
            ⟨(some 25), .idxA none 1 (.tmp 23) (.tmp 24), none⟩,
            ⟨(some 26), .load none (.tmp 25), none⟩,
            ⟨(some 27), .minb [(.tmp 26), (.const (.int .i64 64))], none⟩,
            ⟨(some 28), .maxb [(.const (.int .i64 0)), (.tmp 27)], none⟩,
            ⟨(some 6), .mv (.tmp 28), none⟩]) (
          .skip))) (
        .draw 0 [⟨0, 0, 0, ⟨(some 29), .mv (.tmp 0), none⟩⟩,
          ⟨1, 0, 1, ⟨(some 30), .nilc (.tmp 29), none⟩⟩,
          ⟨2, 0, 3, ⟨(some 31), .fldA 0 (.tmp 30), none⟩⟩,
          ⟨3, 0, 7, ⟨(some 32), .load none (.tmp 31), none⟩⟩,
          ⟨4, 0, 0, ⟨(some 33), .fldA 0 (.tmp 5), none⟩⟩,
          ⟨5, 0, 16, ⟨(some 34), .load none (.tmp 33), none⟩⟩,
          ⟨6, 0, 63, ⟨(some 35), .idxA none 64 (.tmp 32) (.tmp 34), none⟩⟩,
          ⟨7, 0, 0, ⟨(some 36), .mv (.tmp 6), none⟩⟩,
          ⟨8, 0, 255, ⟨(some 37), .aslc 64 1 (.tmp 35) none (some (.tmp 36)) none, none⟩⟩,
          ⟨9, 0, 0, ⟨(some 38), .fldA 1 (.tmp 5), none⟩⟩,
          ⟨10, 0, 0, ⟨(some 39), .mv (.tmp 6), none⟩⟩,
          ⟨11, 0, 1536, ⟨(some 40), .aslc 64 1 (.tmp 38) none (some (.tmp 39)) none, none⟩⟩,
          ⟨12, 0, 4095, ⟨(some 41), .cpy 1 (.tmp 37) (.tmp 40), none⟩⟩]))))) (
      .region 0 [⟨(some 42), .bin .add (.tmp 14) (.const (.int .i64 1)), none⟩,
        ⟨(some 14), .mv (.tmp 42), none⟩]))))))) (
  .seq (.draw 0 [⟨0, 0, 0, ⟨(some 43), .mv (.tmp 0), none⟩⟩,
    ⟨1, 0, 1, ⟨(some 44), .nilc (.tmp 43), none⟩⟩,
    ⟨2, 0, 3, ⟨(some 45), .fldA 1 (.tmp 44), none⟩⟩,
    ⟨3, 0, 7, ⟨(some 46), .load none (.tmp 45), none⟩⟩,
    ⟨4, 0, 0, ⟨(some 47), .mv (.tmp 0), none⟩⟩,
    ⟨5, 0, 16, ⟨(some 48), .nilc (.tmp 47), none⟩⟩,
    ⟨6, 0, 48, ⟨(some 49), .fldA 0 (.tmp 48), none⟩⟩,
    ⟨7, 0, 112, ⟨(some 50), .load none (.tmp 49), none⟩⟩,
    ⟨8, 0, 255, ⟨(some 51), .cpy 64 (.tmp 46) (.tmp 50), none⟩⟩]) (
  .region 0 [⟨(some 52), .mv (.tmp 0), none⟩,
    ⟨(some 53), .mv (.tmp 0), none⟩,
    ⟨(some 54), .mv (.tmp 0), none⟩,
    ⟨(some 55), .nilc (.tmp 52), none⟩,
    ⟨(some 56), .fldA 2 (.tmp 55), none⟩,
    ⟨none, .store 1 (.tmp 56) (.const (.slice none 0 0)), none⟩,
    ⟨(some 57), .nilc (.tmp 53), none⟩,
    ⟨(some 58), .fldA 3 (.tmp 57), none⟩,
    ⟨none, .store 1 (.tmp 58) (.const (.bool false)), none⟩,
    ⟨(some 59), .nilc (.tmp 54), none⟩,
    ⟨(some 60), .fldA 4 (.tmp 59), none⟩,
    ⟨none, .store 1 (.tmp 60) (.const (.int .i64 (-1))), none⟩])))⟩

/-- (*sennet/post.Disk).Read -/
def f13 : IFn := ⟨21, [.tmp 4, .tmp 5],
  .seq (.region 0 [⟨(some 4), .mv (.const (.slice none 0 0)), none⟩,
    ⟨(some 5), .mv (.const (.int .i64 0)), none⟩]) (
  .seq (.seq (.region 0 [⟨(some 7), .mv (.tmp 0), none⟩,
    ⟨(some 8), .mv (.tmp 1), none⟩,
    ⟨(some 9), .call (.func 29) [(.tmp 7), (.tmp 8)], none⟩,
    ⟨(some 6), .mv (.tmp 9), none⟩]) (
  .seq (.region 0 [⟨(some 10), .mv (.tmp 6), none⟩,
    ⟨(some 11), .bin .neq (.tmp 10) (.const (.int .i64 0)), none⟩]) (
  .cond (.tmp 11) (
    .seq (.region 0 [⟨(some 12), .mv (.tmp 6), none⟩,
      ⟨(some 4), .mv (.const (.slice none 0 0)), none⟩,
      ⟨(some 5), .mv (.tmp 12), none⟩]) (
    .ret)) (
    .skip)))) (
  .seq (.region 0 [⟨(some 13), .mv (.tmp 0), none⟩,
    ⟨(some 14), .nilc (.tmp 13), none⟩,
    ⟨(some 15), .fldA 1 (.tmp 14), none⟩,
    ⟨(some 16), .load none (.tmp 15), none⟩,
    ⟨(some 17), .mv (.tmp 1), none⟩,
    ⟨(some 18), .idxA none 64 (.tmp 16) (.tmp 17), none⟩,
    ⟨(some 19), .aslc 64 1 (.tmp 18) none none none, none⟩,
    ⟨(some 20), .call (.func 32) [(.tmp 19)], none⟩,
    ⟨(some 4), .mv (.tmp 20), none⟩,
    ⟨(some 5), .mv (.const (.int .i64 0)), none⟩]) (
  .ret)))⟩

/-- (*sennet/post.Disk).Down -/
def f14 : IFn := ⟨11, [.tmp 2],
  .seq (.region 0 [⟨(some 2), .mv (.const (.bool false)), none⟩]) (
  .seq (.region 0 [⟨(some 3), .mv (.tmp 0), none⟩,
    ⟨(some 4), .eqn .ptr false (.tmp 3) (.const (.pointer none)), none⟩,
    ⟨(some 5), .mv (.tmp 4), none⟩,
    ⟨(some 6), .mv (.tmp 0), (some (5, false))⟩,
    ⟨(some 7), .nilc (.tmp 6), (some (5, false))⟩,
    ⟨(some 8), .fldA 3 (.tmp 7), (some (5, false))⟩,
    ⟨(some 9), .load none (.tmp 8), (some (5, false))⟩,
    ⟨(some 10), .pick (.tmp 5) (.const (.bool true)) (.tmp 9), none⟩,
    ⟨(some 2), .mv (.tmp 10), none⟩]) (
  .ret))⟩

/-- sennet/sennetlaw08.small -/
def f15 : IFn := ⟨29, [.tmp 2],
  .seq (.region 0 [⟨(some 2), .mv (.const (.bool false)), none⟩]) (
  .seq (.seq (.region 0 [⟨(some 4), .mv (.tmp 0), none⟩,
    ⟨(some 5), .ln (.tmp 4), none⟩,
    ⟨(some 6), .bin .gtr (.tmp 5) (.const (.int .i64 200)), none⟩]) (
  .cond (.tmp 6) (
    .seq (.region 0 [⟨(some 2), .mv (.const (.bool false)), none⟩]) (
    .ret)) (
    .skip))) (
  .seq (.seq (.region 0 [⟨(some 3), .mv (.const (.int .i64 0)), none⟩]) (
  .block 0 (
    .loop (
      .seq (.seq (.region 0 [⟨(some 7), .mv (.tmp 3), none⟩,
        ⟨(some 8), .mv (.tmp 0), none⟩,
        ⟨(some 9), .ln (.tmp 8), none⟩,
        ⟨(some 10), .bin .lss (.tmp 7) (.tmp 9), none⟩]) (
      .cond (.tmp 10) (
        .skip) (
        .exit 0))) (
      .seq (.block 1 (
        .seq (.region 0 [⟨(some 13), .mv (.tmp 0), none⟩,
          ⟨(some 14), .mv (.tmp 3), none⟩,
          ⟨(some 15), .idxA none 5 (.tmp 13) (.tmp 14), none⟩,
          ⟨(some 16), .fldA 2 (.tmp 15), none⟩,
          ⟨(some 17), .load none (.tmp 16), none⟩,
          ⟨(some 18), .ln (.tmp 17), none⟩,
          ⟨(some 19), .bin .gtr (.tmp 18) (.const (.int .i64 200)), none⟩,
          ⟨(some 20), .mv (.tmp 19), none⟩,
          ⟨(some 21), .mv (.tmp 0), (some (20, false))⟩,
          ⟨(some 22), .mv (.tmp 3), (some (20, false))⟩,
          ⟨(some 23), .idxA none 5 (.tmp 21) (.tmp 22), (some (20, false))⟩,
          ⟨(some 24), .fldA 4 (.tmp 23), (some (20, false))⟩,
          ⟨(some 25), .load none (.tmp 24), (some (20, false))⟩,
          ⟨(some 26), .ln (.tmp 25), (some (20, false))⟩,
          ⟨(some 27), .bin .gtr (.tmp 26) (.const (.int .i64 200)), (some (20, false))⟩,
          ⟨(some 28), .pick (.tmp 20) (.const (.bool true)) (.tmp 27), none⟩]) (
        .cond (.tmp 28) (
          .seq (.region 0 [⟨(some 2), .mv (.const (.bool false)), none⟩]) (
          .ret)) (
          .skip)))) (
      .region 0 [⟨(some 11), .mv (.tmp 3), none⟩,
        ⟨(some 12), .bin .add (.tmp 11) (.const (.int .i64 1)), none⟩,
        ⟨(some 3), .mv (.tmp 12), none⟩])))))) (
  .seq (.region 0 [⟨(some 2), .mv (.const (.bool true)), none⟩]) (
  .ret))))⟩

/-- sennet/sennetlaw08.disk -/
def f16 : IFn := ⟨34, [.tmp 2, .tmp 3, .tmp 4],
  .seq (.region 0 [⟨(some 2), .mv (.const (.pointer none)), none⟩,
    ⟨(some 3), .mv (.const (.pointer none)), none⟩,
    ⟨(some 4), .mv (.const (.bool false)), none⟩]) (
  .seq (.region 0 [⟨(some 10), .mv (.tmp 0), none⟩,
    ⟨(some 11), .conv .u64 (.tmp 10), none⟩,
    ⟨(some 12), .bin .rem (.tmp 11) (.const (.int .u64 65)), none⟩,
    ⟨(some 13), .conv .i64 (.tmp 12), none⟩,
    ⟨(some 14), .bin .add (.const (.int .i64 16)) (.tmp 13), none⟩,
    ⟨(some 5), .mv (.tmp 14), none⟩]) (
  .seq (.region 0 [⟨(some 16), .mv (.tmp 5), none⟩,
    ⟨(some 17), .call (.func 9) [(.tmp 16)], none⟩,
    ⟨(some 15), .mv (.tmp 17), none⟩,
    ⟨(some 18), .extr (.tmp 15) 0, none⟩,
    ⟨(some 19), .extr (.tmp 15) 1, none⟩,
    ⟨(some 6), .mv (.tmp 18), none⟩,
    ⟨(some 7), .mv (.tmp 19), none⟩]) (
  .seq (.region 0 [⟨(some 21), .mv (.tmp 5), none⟩,
    ⟨(some 22), .call (.func 33) [(.tmp 21)], none⟩,
    ⟨(some 20), .mv (.tmp 22), none⟩,
    ⟨(some 23), .extr (.tmp 20) 0, none⟩,
    ⟨(some 24), .extr (.tmp 20) 1, none⟩,
    ⟨(some 8), .mv (.tmp 23), none⟩,
    ⟨(some 9), .mv (.tmp 24), none⟩]) (
  .seq (.region 0 [⟨(some 25), .mv (.tmp 6), none⟩,
    ⟨(some 26), .mv (.tmp 8), none⟩,
    ⟨(some 27), .mv (.tmp 7), none⟩,
    ⟨(some 28), .mv (.tmp 9), none⟩,
    ⟨(some 29), .bin .eql (.tmp 27) (.tmp 28), none⟩,
    ⟨(some 30), .mv (.tmp 29), none⟩,
    ⟨(some 31), .mv (.tmp 6), (some (30, true))⟩,
    ⟨(some 32), .eqn .ptr true (.tmp 31) (.const (.pointer none)), (some (30, true))⟩,
    ⟨(some 33), .pick (.tmp 30) (.tmp 32) (.const (.bool false)), none⟩,
    ⟨(some 2), .mv (.tmp 25), none⟩,
    ⟨(some 3), .mv (.tmp 26), none⟩,
    ⟨(some 4), .mv (.tmp 33), none⟩]) (
  .ret)))))⟩

/-- sennet/sennetlaw08.step -/
def f17 : IFn := ⟨81, [.tmp 6],
  .seq (.region 1 [⟨(some 5), .box 43 (.tmp 2), none⟩,
    ⟨(some 6), .mv (.const (.bool false)), none⟩]) (
  .seq (.seq (.region 0 [⟨(some 11), .fldA 0 (.tmp 5), none⟩,
    ⟨(some 12), .load none (.tmp 11), none⟩,
    ⟨(some 13), .bin .rem (.tmp 12) (.const (.int .u8 5)), none⟩]) (
  .block 0 (
    .seq (.region 0 [⟨(some 15), .bin .eql (.tmp 13) (.const (.int .u8 0)), none⟩,
      ⟨(some 14), .mv (.tmp 15), none⟩]) (
    .cond (.tmp 14) (
      .seq (.region 0 [⟨(some 17), .mv (.tmp 0), none⟩,
        ⟨(some 18), .fldA 1 (.tmp 5), none⟩,
        ⟨(some 19), .load none (.tmp 18), none⟩,
        ⟨(some 20), .call (.func 13) [(.tmp 17), (.tmp 19)], none⟩,
        ⟨(some 16), .mv (.tmp 20), none⟩,
        ⟨(some 21), .extr (.tmp 16) 0, none⟩,
        ⟨(some 22), .extr (.tmp 16) 1, none⟩,
        ⟨(some 7), .mv (.tmp 21), none⟩,
        ⟨(some 8), .mv (.tmp 22), none⟩]) (
      .seq (.region 0 [⟨(some 24), .mv (.tmp 1), none⟩,
        ⟨(some 25), .fldA 1 (.tmp 5), none⟩,
        ⟨(some 26), .load none (.tmp 25), none⟩,
        ⟨(some 27), .call (.func 34) [(.tmp 24), (.tmp 26)], none⟩,
        ⟨(some 23), .mv (.tmp 27), none⟩,
        ⟨(some 28), .extr (.tmp 23) 0, none⟩,
        ⟨(some 29), .extr (.tmp 23) 1, none⟩,
        ⟨(some 9), .mv (.tmp 28), none⟩,
        ⟨(some 10), .mv (.tmp 29), none⟩]) (
      .seq (.region 0 [⟨(some 30), .mv (.tmp 8), none⟩,
        ⟨(some 31), .mv (.tmp 10), none⟩,
        ⟨(some 32), .bin .eql (.tmp 30) (.tmp 31), none⟩,
        ⟨(some 33), .mv (.tmp 32), none⟩,
        ⟨(some 34), .mv (.tmp 7), (some (33, true))⟩,
        ⟨(some 35), .b2s (.tmp 34), (some (33, true))⟩,
        ⟨(some 36), .mv (.tmp 9), (some (33, true))⟩,
        ⟨(some 37), .bin .eql (.tmp 35) (.tmp 36), (some (33, true))⟩,
        ⟨(some 38), .pick (.tmp 33) (.tmp 37) (.const (.bool false)), none⟩,
        ⟨(some 6), .mv (.tmp 38), none⟩]) (
      .ret)))) (
      .seq (.region 0 [⟨(some 40), .bin .eql (.tmp 13) (.const (.int .u8 1)), none⟩,
        ⟨(some 39), .mv (.tmp 40), none⟩]) (
      .cond (.tmp 39) (
        .seq (.draw 0 [⟨0, 0, 0, ⟨(some 41), .mv (.tmp 0), none⟩⟩,
          ⟨1, 0, 0, ⟨(some 42), .fldA 1 (.tmp 5), none⟩⟩,
          ⟨2, 0, 2, ⟨(some 43), .load none (.tmp 42), none⟩⟩,
          ⟨3, 0, 0, ⟨(some 44), .fldA 2 (.tmp 5), none⟩⟩,
          ⟨4, 0, 8, ⟨(some 45), .load none (.tmp 44), none⟩⟩,
          ⟨6, 0, 0, ⟨(some 47), .mv (.tmp 1), none⟩⟩,
          ⟨7, 0, 0, ⟨(some 48), .fldA 1 (.tmp 5), none⟩⟩,
          ⟨8, 0, 128, ⟨(some 49), .load none (.tmp 48), none⟩⟩,
          ⟨9, 0, 0, ⟨(some 50), .fldA 2 (.tmp 5), none⟩⟩,
          ⟨10, 0, 512, ⟨(some 51), .load none (.tmp 50), none⟩⟩,
          ⟨11, 0, 1536, ⟨(some 52), .b2s (.tmp 51), none⟩⟩,
          ⟨5, 0, 31, ⟨(some 46), .call (.func 10) [(.tmp 41), (.tmp 43), (.tmp 45)], none⟩⟩,
          ⟨12, 0, 4095, ⟨(some 53), .call (.func 35) [(.tmp 47), (.tmp 49), (.tmp 52)], none⟩⟩,
          ⟨13, 0, 8191, ⟨(some 54), .bin .eql (.tmp 46) (.tmp 53), none⟩⟩,
          ⟨14, 0, 16383, ⟨(some 6), .mv (.tmp 54), none⟩⟩]) (
        .ret)) (
        .seq (.region 0 [⟨(some 56), .bin .eql (.tmp 13) (.const (.int .u8 2)), none⟩,
          ⟨(some 55), .mv (.tmp 56), none⟩]) (
        .cond (.tmp 55) (
          .seq (.region 0 [⟨(some 57), .mv (.tmp 0), none⟩,
            ⟨(some 58), .call (.func 11) [(.tmp 57)], none⟩,
            ⟨(some 59), .mv (.tmp 1), none⟩,
            ⟨(some 60), .call (.func 36) [(.tmp 59)], none⟩,
            ⟨(some 61), .bin .eql (.tmp 58) (.tmp 60), none⟩,
            ⟨(some 6), .mv (.tmp 61), none⟩]) (
          .ret)) (
          .seq (.region 0 [⟨(some 63), .bin .eql (.tmp 13) (.const (.int .u8 3)), none⟩,
            ⟨(some 62), .mv (.tmp 63), none⟩]) (
          .cond (.tmp 62) (
            .seq (.draw 0 [⟨0, 0, 0, ⟨(some 64), .mv (.tmp 0), none⟩⟩,
              ⟨1, 0, 0, ⟨(some 65), .fldA 3 (.tmp 5), none⟩⟩,
              ⟨2, 0, 2, ⟨(some 66), .load none (.tmp 65), none⟩⟩,
              ⟨4, 0, 0, ⟨(some 68), .mv (.tmp 1), none⟩⟩,
              ⟨5, 0, 0, ⟨(some 69), .fldA 3 (.tmp 5), none⟩⟩,
              ⟨6, 0, 32, ⟨(some 70), .load none (.tmp 69), none⟩⟩,
              ⟨3, 0, 7, ⟨(some 67), .call (.func 23) [(.tmp 64), (.tmp 66)], none⟩⟩,
              ⟨7, 0, 127, ⟨(some 71), .call (.func 37) [(.tmp 68), (.tmp 70)], none⟩⟩,
              ⟨8, 0, 255, ⟨(some 72), .bin .eql (.tmp 67) (.tmp 71), none⟩⟩,
              ⟨9, 0, 511, ⟨(some 6), .mv (.tmp 72), none⟩⟩]) (
            .ret)) (
            .skip))))))))))) (
  .seq (.region 0 [⟨(some 73), .mv (.tmp 0), none⟩,
    ⟨(some 74), .fldA 4 (.tmp 5), none⟩,
    ⟨(some 75), .load none (.tmp 74), none⟩,
    ⟨(some 76), .call (.func 12) [(.tmp 73), (.tmp 75)], none⟩]) (
  .seq (.region 0 [⟨(some 77), .mv (.tmp 1), none⟩,
    ⟨(some 78), .fldA 4 (.tmp 5), none⟩,
    ⟨(some 79), .load none (.tmp 78), none⟩,
    ⟨(some 80), .call (.func 38) [(.tmp 77), (.tmp 79)], none⟩]) (
  .seq (.region 0 [⟨(some 6), .mv (.const (.bool true)), none⟩]) (
  .ret)))))⟩

/-- sennet/post.Open -/
def f18 : IFn := ⟨52, [.tmp 2, .tmp 3, .tmp 4],
  .seq (.region 0 [⟨(some 2), .mv (.const (.pointer none)), none⟩,
    ⟨(some 3), .mv (.const (.slice none 0 0)), none⟩,
    ⟨(some 4), .mv (.const (.int .i64 0)), none⟩]) (
  .seq (.seq (.region 0 [⟨(some 12), .mv (.tmp 0), none⟩,
    ⟨(some 13), .call (.func 31) [(.tmp 12)], none⟩,
    ⟨(some 5), .mv (.tmp 13), none⟩]) (
  .seq (.region 0 [⟨(some 14), .mv (.tmp 5), none⟩,
    ⟨(some 15), .bin .neq (.tmp 14) (.const (.int .i64 0)), none⟩]) (
  .cond (.tmp 15) (
    .seq (.region 0 [⟨(some 16), .mv (.tmp 5), none⟩,
      ⟨(some 2), .mv (.const (.pointer none)), none⟩,
      ⟨(some 3), .mv (.const (.slice none 0 0)), none⟩,
      ⟨(some 4), .mv (.tmp 16), none⟩]) (
    .ret)) (
    .skip)))) (
  .seq (.region 1 [⟨(some 17), .mv (.tmp 0), none⟩,
    ⟨(some 18), .build [(.pointer none), (.int .i64 0), (.int .i64 0)] [(0, 1, (.tmp 17))], none⟩,
    ⟨(some 19), .box 85 (.tmp 18), none⟩,
    ⟨(some 6), .mv (.tmp 19), none⟩]) (
  .seq (.region 0 [⟨(some 7), .mv (.const (.slice none 0 0)), none⟩]) (
  .seq (.block 0 (
    .loop (
      .block 1 (
        .seq (.region 0 [⟨(some 21), .mv (.tmp 6), none⟩,
          ⟨(some 22), .mv (.tmp 6), none⟩,
          ⟨(some 23), .nilc (.tmp 22), none⟩,
          ⟨(some 24), .fldA 1 (.tmp 23), none⟩,
          ⟨(some 25), .load none (.tmp 24), none⟩,
          ⟨(some 26), .call (.func 39) [(.tmp 21), (.tmp 25)], none⟩,
          ⟨(some 20), .mv (.tmp 26), none⟩,
          ⟨(some 27), .extr (.tmp 20) 0, none⟩,
          ⟨(some 28), .extr (.tmp 20) 1, none⟩,
          ⟨(some 29), .extr (.tmp 20) 2, none⟩,
          ⟨(some 8), .mv (.tmp 27), none⟩,
          ⟨(some 9), .mv (.tmp 28), none⟩,
          ⟨(some 10), .mv (.tmp 29), none⟩]) (
        .seq (.seq (.region 0 [⟨(some 30), .mv (.tmp 10), none⟩,
          ⟨(some 31), .un .not (.tmp 30), none⟩]) (
        .cond (.tmp 31) (
          .exit 0) (
          .skip))) (
        .region 2 [⟨(some 32), .mv (.tmp 6), none⟩,
          ⟨(some 33), .mv (.tmp 7), none⟩,
          ⟨(some 34), .mv (.tmp 8), none⟩,
          ⟨(some 35), .bslice 9 1 [(.string ⟨#[]⟩)] 1 [(0, 1, (.tmp 34))], none⟩,
          ⟨(some 36), .app 9 1 16 [(.string ⟨#[]⟩)] (.tmp 33) (.tmp 35), none⟩,
          ⟨(some 37), .mv (.tmp 9), none⟩,
          ⟨(some 7), .mv (.tmp 36), none⟩,
          ⟨(some 38), .nilc (.tmp 32), none⟩,
          ⟨(some 39), .fldA 1 (.tmp 38), none⟩,
          ⟨none, .store 1 (.tmp 39) (.tmp 37), none⟩])))))) (
  .seq (.region 0 [⟨(some 40), .mv (.tmp 6), none⟩,
    ⟨(some 41), .mv (.tmp 7), none⟩,
    ⟨(some 42), .ln (.tmp 41), none⟩,
    ⟨(some 43), .nilc (.tmp 40), none⟩,
    ⟨(some 44), .fldA 2 (.tmp 43), none⟩,
    ⟨none, .store 1 (.tmp 44) (.tmp 42), none⟩]) (
  .seq (.seq (.region 0 [⟨(some 45), .mv (.tmp 6), none⟩,
    ⟨(some 46), .call (.func 40) [(.tmp 45)], none⟩,
    ⟨(some 11), .mv (.tmp 46), none⟩]) (
  .seq (.region 0 [⟨(some 47), .mv (.tmp 11), none⟩,
    ⟨(some 48), .bin .neq (.tmp 47) (.const (.int .i64 0)), none⟩]) (
  .cond (.tmp 48) (
    .seq (.region 0 [⟨(some 49), .mv (.tmp 11), none⟩,
      ⟨(some 2), .mv (.const (.pointer none)), none⟩,
      ⟨(some 3), .mv (.const (.slice none 0 0)), none⟩,
      ⟨(some 4), .mv (.tmp 49), none⟩]) (
    .ret)) (
    .skip)))) (
  .seq (.region 0 [⟨(some 50), .mv (.tmp 6), none⟩,
    ⟨(some 51), .mv (.tmp 7), none⟩,
    ⟨(some 2), .mv (.tmp 50), none⟩,
    ⟨(some 3), .mv (.tmp 51), none⟩,
    ⟨(some 4), .mv (.const (.int .i64 0)), none⟩]) (
  .ret))))))))⟩

/-- (*sennet/post.Journal).Append -/
def f19 : IFn := ⟨13, [.tmp 4],
  .seq (.region 0 [⟨(some 4), .mv (.const (.int .i64 0)), none⟩]) (
  .seq (.seq (.region 0 [⟨(some 5), .mv (.tmp 0), none⟩,
    ⟨(some 6), .eqn .ptr false (.tmp 5) (.const (.pointer none)), none⟩]) (
  .cond (.tmp 6) (
    .seq (.region 0 [⟨(some 4), .mv (.const (.int .i64 3)), none⟩]) (
    .ret)) (
    .skip))) (
  .seq (.seq (.region 0 [⟨(some 7), .mv (.tmp 1), none⟩,
    ⟨(some 8), .sln (.tmp 7), none⟩,
    ⟨(some 9), .bin .gtr (.tmp 8) (.const (.int .i64 20000)), none⟩]) (
  .cond (.tmp 9) (
    .seq (.region 0 [⟨(some 4), .mv (.const (.int .i64 2)), none⟩]) (
    .ret)) (
    .skip))) (
  .seq (.region 0 [⟨(some 10), .mv (.tmp 0), none⟩,
    ⟨(some 11), .mv (.tmp 1), none⟩,
    ⟨(some 12), .call (.func 41) [(.tmp 10), (.tmp 11)], none⟩,
    ⟨(some 4), .mv (.tmp 12), none⟩]) (
  .ret))))⟩

/-- (*sennet/post.Journal).Sync -/
def f20 : IFn := ⟨10, [.tmp 2],
  .seq (.region 0 [⟨(some 2), .mv (.const (.int .i64 0)), none⟩]) (
  .seq (.seq (.region 0 [⟨(some 3), .mv (.tmp 0), none⟩,
    ⟨(some 4), .eqn .ptr false (.tmp 3) (.const (.pointer none)), none⟩]) (
  .cond (.tmp 4) (
    .seq (.region 0 [⟨(some 2), .mv (.const (.int .i64 3)), none⟩]) (
    .ret)) (
    .skip))) (
  .seq (.region 0 [⟨(some 5), .mv (.tmp 0), none⟩,
    ⟨(some 6), .nilc (.tmp 5), none⟩,
    ⟨(some 7), .fldA 0 (.tmp 6), none⟩,
    ⟨(some 8), .load none (.tmp 7), none⟩,
    ⟨(some 9), .call (.func 11) [(.tmp 8)], none⟩,
    ⟨(some 2), .mv (.tmp 9), none⟩]) (
  .ret)))⟩

/-- sennet/sennetlaw08.journals -/
def f21 : IFn := ⟨74, [.tmp 0],
  .seq (.region 0 [⟨(some 0), .mv (.const (.bool false)), none⟩]) (
  .seq (.region 0 [⟨(some 12), .call (.func 9) [(.const (.int .i64 32))], none⟩,
    ⟨(some 11), .mv (.tmp 12), none⟩,
    ⟨(some 13), .extr (.tmp 11) 0, none⟩,
    ⟨(some 14), .extr (.tmp 11) 1, none⟩,
    ⟨(some 1), .mv (.tmp 13), none⟩,
    ⟨(some 2), .mv (.tmp 14), none⟩]) (
  .seq (.region 0 [⟨(some 16), .mv (.tmp 1), none⟩,
    ⟨(some 17), .call (.func 18) [(.tmp 16)], none⟩,
    ⟨(some 15), .mv (.tmp 17), none⟩,
    ⟨(some 18), .extr (.tmp 15) 0, none⟩,
    ⟨(some 19), .extr (.tmp 15) 1, none⟩,
    ⟨(some 20), .extr (.tmp 15) 2, none⟩,
    ⟨(some 3), .mv (.tmp 18), none⟩,
    ⟨(some 4), .mv (.tmp 19), none⟩,
    ⟨(some 5), .mv (.tmp 20), none⟩]) (
  .seq (.seq (.region 0 [⟨(some 21), .mv (.tmp 5), none⟩,
    ⟨(some 22), .bin .neq (.tmp 21) (.const (.int .i64 0)), none⟩,
    ⟨(some 23), .mv (.tmp 22), none⟩,
    ⟨(some 24), .mv (.tmp 3), (some (23, false))⟩,
    ⟨(some 25), .eqn .ptr false (.tmp 24) (.const (.pointer none)), (some (23, false))⟩,
    ⟨(some 26), .pick (.tmp 23) (.const (.bool true)) (.tmp 25), none⟩,
    ⟨(some 27), .mv (.tmp 26), none⟩,
    ⟨(some 28), .mv (.tmp 4), (some (27, false))⟩,
    ⟨(some 29), .ln (.tmp 28), (some (27, false))⟩,
    ⟨(some 30), .bin .gtr (.tmp 29) (.const (.int .i64 0)), (some (27, false))⟩,
    ⟨(some 31), .pick (.tmp 27) (.const (.bool true)) (.tmp 30), none⟩]) (
  .cond (.tmp 31) (
    .seq (.region 0 [⟨(some 0), .mv (.const (.bool false)), none⟩]) (
    .ret)) (
    .skip))) (
  .seq (.region 0 [⟨(some 32), .mv (.tmp 3), none⟩,
    ⟨(some 33), .call (.func 19) [(.tmp 32), (.const (.string ⟨#[111, 110, 101]⟩))], none⟩,
    ⟨(some 6), .mv (.tmp 33), none⟩]) (
  .seq (.region 0 [⟨(some 34), .mv (.tmp 3), none⟩,
    ⟨(some 35), .call (.func 20) [(.tmp 34)], none⟩,
    ⟨(some 7), .mv (.tmp 35), none⟩]) (
  .seq (.region 0 [⟨(some 36), .mv (.tmp 1), none⟩,
    ⟨(some 37), .call (.func 12) [(.tmp 36), (.const (.slice none 0 0))], none⟩]) (
  .seq (.region 0 [⟨(some 39), .mv (.tmp 1), none⟩,
    ⟨(some 40), .call (.func 18) [(.tmp 39)], none⟩,
    ⟨(some 38), .mv (.tmp 40), none⟩,
    ⟨(some 41), .extr (.tmp 38) 0, none⟩,
    ⟨(some 42), .extr (.tmp 38) 1, none⟩,
    ⟨(some 43), .extr (.tmp 38) 2, none⟩,
    ⟨(some 8), .mv (.tmp 41), none⟩,
    ⟨(some 9), .mv (.tmp 42), none⟩,
    ⟨(some 10), .mv (.tmp 43), none⟩]) (
  .seq (.region 0 [⟨(some 44), .mv (.tmp 6), none⟩,
    ⟨(some 45), .bin .eql (.tmp 44) (.const (.int .i64 0)), none⟩,
    ⟨(some 46), .mv (.tmp 45), none⟩,
    ⟨(some 47), .mv (.tmp 7), (some (46, true))⟩,
    ⟨(some 48), .bin .eql (.tmp 47) (.const (.int .i64 0)), (some (46, true))⟩,
    ⟨(some 49), .pick (.tmp 46) (.tmp 48) (.const (.bool false)), none⟩,
    ⟨(some 50), .mv (.tmp 49), none⟩,
    ⟨(some 51), .mv (.tmp 10), (some (50, true))⟩,
    ⟨(some 52), .bin .eql (.tmp 51) (.const (.int .i64 0)), (some (50, true))⟩,
    ⟨(some 53), .pick (.tmp 50) (.tmp 52) (.const (.bool false)), none⟩,
    ⟨(some 54), .mv (.tmp 53), none⟩,
    ⟨(some 55), .mv (.tmp 8), (some (54, true))⟩,
    ⟨(some 56), .eqn .ptr true (.tmp 55) (.const (.pointer none)), (some (54, true))⟩,
    ⟨(some 57), .pick (.tmp 54) (.tmp 56) (.const (.bool false)), none⟩,
    ⟨(some 58), .mv (.tmp 57), none⟩,
    ⟨(some 59), .mv (.tmp 8), (some (58, true))⟩,
    ⟨(some 60), .call (.func 28) [(.tmp 59)], (some (58, true))⟩,
    ⟨(some 61), .bin .eql (.tmp 60) (.const (.int .i64 1)), (some (58, true))⟩,
    ⟨(some 62), .pick (.tmp 58) (.tmp 61) (.const (.bool false)), none⟩,
    ⟨(some 63), .mv (.tmp 62), none⟩,
    ⟨(some 64), .mv (.tmp 9), (some (63, true))⟩,
    ⟨(some 65), .ln (.tmp 64), (some (63, true))⟩,
    ⟨(some 66), .bin .eql (.tmp 65) (.const (.int .i64 1)), (some (63, true))⟩,
    ⟨(some 67), .pick (.tmp 63) (.tmp 66) (.const (.bool false)), none⟩,
    ⟨(some 68), .mv (.tmp 67), none⟩,
    ⟨(some 69), .mv (.tmp 9), (some (68, true))⟩,
    ⟨(some 70), .idxA none 1 (.tmp 69) (.const (.int .i64 0)), (some (68, true))⟩,
    ⟨(some 71), .load none (.tmp 70), (some (68, true))⟩,
    ⟨(some 72), .bin .eql (.tmp 71) (.const (.string ⟨#[111, 110, 101]⟩)), (some (68, true))⟩,
    ⟨(some 73), .pick (.tmp 68) (.tmp 72) (.const (.bool false)), none⟩,
    ⟨(some 0), .mv (.tmp 73), none⟩]) (
  .ret)))))))))⟩

/-- sennet/sennetref08.SameTexts -/
def f22 : IFn := ⟨26, [.tmp 4],
  .seq (.region 0 [⟨(some 4), .mv (.const (.bool false)), none⟩]) (
  .seq (.seq (.region 0 [⟨(some 6), .mv (.tmp 0), none⟩,
    ⟨(some 7), .ln (.tmp 6), none⟩,
    ⟨(some 8), .mv (.tmp 1), none⟩,
    ⟨(some 9), .ln (.tmp 8), none⟩,
    ⟨(some 10), .bin .neq (.tmp 7) (.tmp 9), none⟩]) (
  .cond (.tmp 10) (
    .seq (.region 0 [⟨(some 4), .mv (.const (.bool false)), none⟩]) (
    .ret)) (
    .skip))) (
  .seq (.seq (.region 0 [⟨(some 5), .mv (.const (.int .i64 0)), none⟩]) (
  .block 0 (
    .loop (
      .seq (.seq (.region 0 [⟨(some 11), .mv (.tmp 5), none⟩,
        ⟨(some 12), .mv (.tmp 0), none⟩,
        ⟨(some 13), .ln (.tmp 12), none⟩,
        ⟨(some 14), .bin .lss (.tmp 11) (.tmp 13), none⟩]) (
      .cond (.tmp 14) (
        .skip) (
        .exit 0))) (
      .seq (.block 1 (
        .seq (.draw 0 [⟨0, 0, 0, ⟨(some 17), .mv (.tmp 0), none⟩⟩,
          ⟨1, 0, 0, ⟨(some 18), .mv (.tmp 5), none⟩⟩,
          ⟨2, 0, 3, ⟨(some 19), .idxA none 1 (.tmp 17) (.tmp 18), none⟩⟩,
          ⟨3, 0, 7, ⟨(some 20), .load none (.tmp 19), none⟩⟩,
          ⟨4, 0, 0, ⟨(some 21), .mv (.tmp 1), none⟩⟩,
          ⟨5, 0, 0, ⟨(some 22), .mv (.tmp 5), none⟩⟩,
          ⟨6, 0, 48, ⟨(some 23), .idxA none 1 (.tmp 21) (.tmp 22), none⟩⟩,
          ⟨7, 0, 112, ⟨(some 24), .load none (.tmp 23), none⟩⟩,
          ⟨8, 0, 255, ⟨(some 25), .bin .neq (.tmp 20) (.tmp 24), none⟩⟩]) (
        .cond (.tmp 25) (
          .seq (.region 0 [⟨(some 4), .mv (.const (.bool false)), none⟩]) (
          .ret)) (
          .skip)))) (
      .region 0 [⟨(some 15), .mv (.tmp 5), none⟩,
        ⟨(some 16), .bin .add (.tmp 15) (.const (.int .i64 1)), none⟩,
        ⟨(some 5), .mv (.tmp 16), none⟩])))))) (
  .seq (.region 0 [⟨(some 4), .mv (.const (.bool true)), none⟩]) (
  .ret))))⟩

/-- (*sennet/post.Disk).Stop -/
def f23 : IFn := ⟨17, [.tmp 4],
  .seq (.region 0 [⟨(some 4), .mv (.const (.int .i64 0)), none⟩]) (
  .seq (.seq (.region 0 [⟨(some 6), .mv (.tmp 0), none⟩,
    ⟨(some 7), .call (.func 31) [(.tmp 6)], none⟩,
    ⟨(some 5), .mv (.tmp 7), none⟩]) (
  .seq (.region 0 [⟨(some 8), .mv (.tmp 5), none⟩,
    ⟨(some 9), .bin .neq (.tmp 8) (.const (.int .i64 0)), none⟩]) (
  .cond (.tmp 9) (
    .seq (.region 0 [⟨(some 10), .mv (.tmp 5), none⟩,
      ⟨(some 4), .mv (.tmp 10), none⟩]) (
    .ret)) (
    .skip)))) (
  .seq (.seq (.region 0 [⟨(some 11), .mv (.tmp 1), none⟩,
    ⟨(some 12), .bin .lss (.tmp 11) (.const (.int .i64 0)), none⟩]) (
  .cond (.tmp 12) (
    .seq (.region 0 [⟨(some 4), .mv (.const (.int .i64 1)), none⟩]) (
    .ret)) (
    .skip))) (
  .seq (.region 0 [⟨(some 13), .mv (.tmp 0), none⟩,
    ⟨(some 14), .mv (.tmp 1), none⟩,
    ⟨(some 15), .nilc (.tmp 13), none⟩,
    ⟨(some 16), .fldA 4 (.tmp 15), none⟩,
    ⟨none, .store 1 (.tmp 16) (.tmp 14), none⟩]) (
  .seq (.region 0 [⟨(some 4), .mv (.const (.int .i64 0)), none⟩]) (
  .ret)))))⟩

/-- sennet/sennetlaw08.light -/
def f24 : IFn := ⟨46, [.tmp 2],
  .seq (.region 0 [⟨(some 2), .mv (.const (.bool false)), none⟩]) (
  .seq (.region 0 [⟨(some 3), .mv (.const (.int .i64 0)), none⟩]) (
  .seq (.seq (.region 0 [⟨(some 4), .mv (.const (.int .i64 0)), none⟩]) (
  .block 0 (
    .loop (
      .seq (.seq (.region 0 [⟨(some 5), .mv (.tmp 4), none⟩,
        ⟨(some 6), .mv (.tmp 0), none⟩,
        ⟨(some 7), .ln (.tmp 6), none⟩,
        ⟨(some 8), .bin .lss (.tmp 5) (.tmp 7), none⟩,
        ⟨(some 9), .mv (.tmp 8), none⟩,
        ⟨(some 10), .mv (.tmp 4), (some (9, true))⟩,
        ⟨(some 11), .bin .leq (.tmp 10) (.const (.int .i64 200)), (some (9, true))⟩,
        ⟨(some 12), .pick (.tmp 9) (.tmp 11) (.const (.bool false)), none⟩]) (
      .cond (.tmp 12) (
        .skip) (
        .exit 0))) (
      .seq (.block 1 (
        .seq (.seq (.region 0 [⟨(some 15), .mv (.tmp 0), none⟩,
          ⟨(some 16), .mv (.tmp 4), none⟩,
          ⟨(some 17), .idxA none 4 (.tmp 15) (.tmp 16), none⟩,
          ⟨(some 18), .fldA 1 (.tmp 17), none⟩,
          ⟨(some 19), .load none (.tmp 18), none⟩,
          ⟨(some 20), .sln (.tmp 19), none⟩,
          ⟨(some 21), .bin .gtr (.tmp 20) (.const (.int .i64 21000)), none⟩,
          ⟨(some 22), .mv (.tmp 21), none⟩,
          ⟨(some 23), .mv (.tmp 0), (some (22, false))⟩,
          ⟨(some 24), .mv (.tmp 4), (some (22, false))⟩,
          ⟨(some 25), .idxA none 4 (.tmp 23) (.tmp 24), (some (22, false))⟩,
          ⟨(some 26), .fldA 3 (.tmp 25), (some (22, false))⟩,
          ⟨(some 27), .load none (.tmp 26), (some (22, false))⟩,
          ⟨(some 28), .ln (.tmp 27), (some (22, false))⟩,
          ⟨(some 29), .bin .gtr (.tmp 28) (.const (.int .i64 200)), (some (22, false))⟩,
          ⟨(some 30), .pick (.tmp 22) (.const (.bool true)) (.tmp 29), none⟩]) (
        .cond (.tmp 30) (
          .seq (.region 0 [⟨(some 2), .mv (.const (.bool false)), none⟩]) (
          .ret)) (
          .skip))) (
        .region 0 [⟨(some 31), .mv (.tmp 3), none⟩,
          ⟨(some 32), .mv (.tmp 0), none⟩,
          ⟨(some 33), .mv (.tmp 4), none⟩,
          ⟨(some 34), .idxA none 4 (.tmp 32) (.tmp 33), none⟩,
          ⟨(some 35), .fldA 1 (.tmp 34), none⟩,
          ⟨(some 36), .load none (.tmp 35), none⟩,
          ⟨(some 37), .sln (.tmp 36), none⟩,
          ⟨(some 38), .bin .add (.tmp 31) (.tmp 37), none⟩,
          ⟨(some 3), .mv (.tmp 38), none⟩]))) (
      .region 0 [⟨(some 13), .mv (.tmp 4), none⟩,
        ⟨(some 14), .bin .add (.tmp 13) (.const (.int .i64 1)), none⟩,
        ⟨(some 4), .mv (.tmp 14), none⟩])))))) (
  .seq (.region 0 [⟨(some 39), .mv (.tmp 0), none⟩,
    ⟨(some 40), .ln (.tmp 39), none⟩,
    ⟨(some 41), .bin .leq (.tmp 40) (.const (.int .i64 200)), none⟩,
    ⟨(some 42), .mv (.tmp 41), none⟩,
    ⟨(some 43), .mv (.tmp 3), (some (42, true))⟩,
    ⟨(some 44), .bin .leq (.tmp 43) (.const (.int .i64 200000)), (some (42, true))⟩,
    ⟨(some 45), .pick (.tmp 42) (.tmp 44) (.const (.bool false)), none⟩,
    ⟨(some 2), .mv (.tmp 45), none⟩]) (
  .ret))))⟩

/-- sennet/sennetlaw08.opened -/
def f25 : IFn := ⟨54, [.tmp 6, .tmp 7],
  .seq (.region 0 [⟨(some 6), .mv (.const (.pointer none)), none⟩,
    ⟨(some 7), .mv (.const (.bool false)), none⟩]) (
  .seq (.region 0 [⟨(some 12), .mv (.tmp 0), none⟩,
    ⟨(some 13), .call (.func 18) [(.tmp 12)], none⟩,
    ⟨(some 11), .mv (.tmp 13), none⟩,
    ⟨(some 14), .extr (.tmp 11) 0, none⟩,
    ⟨(some 15), .extr (.tmp 11) 1, none⟩,
    ⟨(some 16), .extr (.tmp 11) 2, none⟩,
    ⟨(some 8), .mv (.tmp 14), none⟩,
    ⟨(some 9), .mv (.tmp 15), none⟩,
    ⟨(some 10), .mv (.tmp 16), none⟩]) (
  .seq (.seq (.region 0 [⟨(some 17), .mv (.tmp 10), none⟩,
    ⟨(some 18), .bin .neq (.tmp 17) (.const (.int .i64 0)), none⟩]) (
  .cond (.tmp 18) (
    .seq (.region 0 [⟨(some 19), .mv (.tmp 10), none⟩,
      ⟨(some 20), .bin .eql (.tmp 19) (.const (.int .i64 80)), none⟩,
      ⟨(some 21), .mv (.tmp 20), none⟩,
      ⟨(some 22), .mv (.tmp 0), (some (21, true))⟩,
      ⟨(some 23), .call (.func 14) [(.tmp 22)], (some (21, true))⟩,
      ⟨(some 24), .pick (.tmp 21) (.tmp 23) (.const (.bool false)), none⟩,
      ⟨(some 25), .mv (.tmp 24), none⟩,
      ⟨(some 26), .mv (.tmp 8), (some (25, true))⟩,
      ⟨(some 27), .eqn .ptr false (.tmp 26) (.const (.pointer none)), (some (25, true))⟩,
      ⟨(some 28), .pick (.tmp 25) (.tmp 27) (.const (.bool false)), none⟩,
      ⟨(some 29), .mv (.tmp 28), none⟩,
      ⟨(some 30), .mv (.tmp 9), (some (29, true))⟩,
      ⟨(some 31), .ln (.tmp 30), (some (29, true))⟩,
      ⟨(some 32), .bin .eql (.tmp 31) (.const (.int .i64 0)), (some (29, true))⟩,
      ⟨(some 33), .pick (.tmp 29) (.tmp 32) (.const (.bool false)), none⟩,
      ⟨(some 6), .mv (.const (.pointer none)), none⟩,
      ⟨(some 7), .mv (.tmp 33), none⟩]) (
    .ret)) (
    .skip))) (
  .seq (.seq (.region 0 [⟨(some 34), .mv (.tmp 8), none⟩,
    ⟨(some 35), .eqn .ptr false (.tmp 34) (.const (.pointer none)), none⟩,
    ⟨(some 36), .mv (.tmp 35), none⟩,
    ⟨(some 37), .mv (.tmp 8), (some (36, false))⟩,
    ⟨(some 38), .call (.func 28) [(.tmp 37)], (some (36, false))⟩,
    ⟨(some 39), .mv (.tmp 9), (some (36, false))⟩,
    ⟨(some 40), .ln (.tmp 39), (some (36, false))⟩,
    ⟨(some 41), .bin .neq (.tmp 38) (.tmp 40), (some (36, false))⟩,
    ⟨(some 42), .pick (.tmp 36) (.const (.bool true)) (.tmp 41), none⟩,
    ⟨(some 43), .mv (.tmp 42), none⟩,
    ⟨(some 44), .mv (.tmp 1), (some (43, false))⟩,
    ⟨(some 45), .mv (.tmp 9), (some (43, false))⟩,
    ⟨(some 46), .mv (.tmp 2), (some (43, false))⟩,
    ⟨(some 47), .call (.func 42) [(.tmp 44), (.tmp 45), (.tmp 46)], (some (43, false))⟩,
    ⟨(some 48), .un .not (.tmp 47), (some (43, false))⟩,
    ⟨(some 49), .pick (.tmp 43) (.const (.bool true)) (.tmp 48), none⟩]) (
  .cond (.tmp 49) (
    .seq (.region 0 [⟨(some 6), .mv (.const (.pointer none)), none⟩,
      ⟨(some 7), .mv (.const (.bool false)), none⟩]) (
    .ret)) (
    .skip))) (
  .seq (.region 0 [⟨(some 50), .mv (.tmp 1), none⟩,
    ⟨(some 51), .mv (.tmp 9), none⟩,
    ⟨(some 52), .call (.func 43) [(.tmp 50), (.tmp 51)], none⟩]) (
  .seq (.region 0 [⟨(some 53), .mv (.tmp 8), none⟩,
    ⟨(some 6), .mv (.tmp 53), none⟩,
    ⟨(some 7), .mv (.const (.bool true)), none⟩]) (
  .ret))))))⟩

/-- sennet/sennetlaw08.append2 -/
def f26 : IFn := ⟨55, [.tmp 12],
  .seq (.region 0 [⟨(some 12), .mv (.const (.bool false)), none⟩]) (
  .seq (.region 0 [⟨(some 15), .mv (.tmp 0), none⟩,
    ⟨(some 16), .call (.func 14) [(.tmp 15)], none⟩,
    ⟨(some 13), .mv (.tmp 16), none⟩]) (
  .seq (.region 0 [⟨(some 17), .mv (.tmp 1), none⟩,
    ⟨(some 18), .mv (.tmp 3), none⟩,
    ⟨(some 19), .call (.func 19) [(.tmp 17), (.tmp 18)], none⟩,
    ⟨(some 14), .mv (.tmp 19), none⟩]) (
  .seq (.seq (.region 0 [⟨(some 20), .mv (.tmp 3), none⟩,
    ⟨(some 21), .sln (.tmp 20), none⟩,
    ⟨(some 22), .bin .gtr (.tmp 21) (.const (.int .i64 20000)), none⟩]) (
  .cond (.tmp 22) (
    .seq (.region 0 [⟨(some 23), .mv (.tmp 14), none⟩,
      ⟨(some 24), .bin .eql (.tmp 23) (.const (.int .i64 2)), none⟩,
      ⟨(some 12), .mv (.tmp 24), none⟩]) (
    .ret)) (
    .skip))) (
  .seq (.seq (.region 0 [⟨(some 25), .mv (.tmp 13), none⟩,
    ⟨(some 26), .mv (.tmp 25), none⟩,
    ⟨(some 27), .mv (.tmp 14), (some (26, false))⟩,
    ⟨(some 28), .bin .eql (.tmp 27) (.const (.int .i64 80)), (some (26, false))⟩,
    ⟨(some 29), .pick (.tmp 26) (.const (.bool true)) (.tmp 28), none⟩]) (
  .cond (.tmp 29) (
    .seq (.region 0 [⟨(some 30), .mv (.tmp 2), none⟩,
      ⟨(some 31), .mv (.tmp 3), none⟩,
      ⟨(some 32), .mv (.tmp 14), none⟩,
      ⟨(some 33), .call (.func 44) [(.tmp 30), (.tmp 31), (.tmp 32)], none⟩]) (
    .seq (.region 0 [⟨(some 34), .mv (.tmp 14), none⟩,
      ⟨(some 35), .bin .eql (.tmp 34) (.const (.int .i64 80)), none⟩,
      ⟨(some 36), .mv (.tmp 35), none⟩,
      ⟨(some 37), .mv (.tmp 0), (some (36, true))⟩,
      ⟨(some 38), .call (.func 14) [(.tmp 37)], (some (36, true))⟩,
      ⟨(some 39), .pick (.tmp 36) (.tmp 38) (.const (.bool false)), none⟩,
      ⟨(some 12), .mv (.tmp 39), none⟩]) (
    .ret))) (
    .skip))) (
  .seq (.seq (.region 0 [⟨(some 40), .mv (.tmp 14), none⟩,
    ⟨(some 41), .bin .eql (.tmp 40) (.const (.int .i64 82)), none⟩]) (
  .cond (.tmp 41) (
    .seq (.region 0 [⟨(some 42), .mv (.tmp 4), none⟩,
      ⟨(some 43), .mv (.tmp 3), none⟩,
      ⟨(some 44), .sln (.tmp 43), none⟩,
      ⟨(some 45), .call (.func 45) [(.tmp 44)], none⟩,
      ⟨(some 46), .bin .add (.tmp 42) (.tmp 45), none⟩,
      ⟨(some 47), .mv (.tmp 5), none⟩,
      ⟨(some 48), .bin .gtr (.tmp 46) (.tmp 47), none⟩,
      ⟨(some 12), .mv (.tmp 48), none⟩]) (
    .ret)) (
    .skip))) (
  .seq (.region 0 [⟨(some 49), .mv (.tmp 2), none⟩,
    ⟨(some 50), .mv (.tmp 3), none⟩,
    ⟨(some 51), .mv (.tmp 14), none⟩,
    ⟨(some 52), .call (.func 44) [(.tmp 49), (.tmp 50), (.tmp 51)], none⟩]) (
  .seq (.region 0 [⟨(some 53), .mv (.tmp 14), none⟩,
    ⟨(some 54), .bin .eql (.tmp 53) (.const (.int .i64 0)), none⟩,
    ⟨(some 12), .mv (.tmp 54), none⟩]) (
  .ret))))))))⟩

/-- sennet/sennetlaw08.cost -/
def f27 : IFn := ⟨26, [.tmp 2],
  .seq (.region 0 [⟨(some 2), .mv (.const (.int .i64 0)), none⟩]) (
  .seq (.region 0 [⟨(some 3), .mv (.const (.int .i64 0)), none⟩]) (
  .seq (.seq (.region 0 [⟨(some 4), .mv (.const (.int .i64 0)), none⟩]) (
  .block 0 (
    .loop (
      .seq (.seq (.region 0 [⟨(some 5), .mv (.tmp 4), none⟩,
        ⟨(some 6), .mv (.tmp 0), none⟩,
        ⟨(some 7), .nilc (.tmp 6), none⟩,
        ⟨(some 8), .fldA 0 (.tmp 7), none⟩,
        ⟨(some 9), .load none (.tmp 8), none⟩,
        ⟨(some 10), .ln (.tmp 9), none⟩,
        ⟨(some 11), .bin .lss (.tmp 5) (.tmp 10), none⟩]) (
      .cond (.tmp 11) (
        .skip) (
        .exit 0))) (
      .seq (.block 1 (
        .region 0 [⟨(some 14), .mv (.tmp 3), none⟩,
          ⟨(some 15), .mv (.tmp 0), none⟩,
          ⟨(some 16), .nilc (.tmp 15), none⟩,
          ⟨(some 17), .fldA 0 (.tmp 16), none⟩,
          ⟨(some 18), .load none (.tmp 17), none⟩,
          ⟨(some 19), .mv (.tmp 4), none⟩,
          ⟨(some 20), .idxA none 1 (.tmp 18) (.tmp 19), none⟩,
          ⟨(some 21), .load none (.tmp 20), none⟩,
          ⟨(some 22), .sln (.tmp 21), none⟩,
          ⟨(some 23), .call (.func 45) [(.tmp 22)], none⟩,
          ⟨(some 24), .bin .add (.tmp 14) (.tmp 23), none⟩,
          ⟨(some 3), .mv (.tmp 24), none⟩])) (
      .region 0 [⟨(some 12), .mv (.tmp 4), none⟩,
        ⟨(some 13), .bin .add (.tmp 12) (.const (.int .i64 1)), none⟩,
        ⟨(some 4), .mv (.tmp 13), none⟩])))))) (
  .seq (.region 0 [⟨(some 25), .mv (.tmp 3), none⟩,
    ⟨(some 2), .mv (.tmp 25), none⟩]) (
  .ret))))⟩

/-- (*sennet/post.Journal).Len -/
def f28 : IFn := ⟨9, [.tmp 2],
  .seq (.region 0 [⟨(some 2), .mv (.const (.int .i64 0)), none⟩]) (
  .seq (.seq (.region 0 [⟨(some 3), .mv (.tmp 0), none⟩,
    ⟨(some 4), .eqn .ptr false (.tmp 3) (.const (.pointer none)), none⟩]) (
  .cond (.tmp 4) (
    .seq (.region 0 [⟨(some 2), .mv (.const (.int .i64 0)), none⟩]) (
    .ret)) (
    .skip))) (
  .seq (.region 0 [⟨(some 5), .mv (.tmp 0), none⟩,
    ⟨(some 6), .nilc (.tmp 5), none⟩,
    ⟨(some 7), .fldA 2 (.tmp 6), none⟩,
    ⟨(some 8), .load none (.tmp 7), none⟩,
    ⟨(some 2), .mv (.tmp 8), none⟩]) (
  .ret)))⟩

/-- (*sennet/post.Disk).place -/
def f29 : IFn := ⟨22, [.tmp 4],
  .seq (.region 0 [⟨(some 4), .mv (.const (.int .i64 0)), none⟩]) (
  .seq (.seq (.region 0 [⟨(some 6), .mv (.tmp 0), none⟩,
    ⟨(some 7), .call (.func 31) [(.tmp 6)], none⟩,
    ⟨(some 5), .mv (.tmp 7), none⟩]) (
  .seq (.region 0 [⟨(some 8), .mv (.tmp 5), none⟩,
    ⟨(some 9), .bin .neq (.tmp 8) (.const (.int .i64 0)), none⟩]) (
  .cond (.tmp 9) (
    .seq (.region 0 [⟨(some 10), .mv (.tmp 5), none⟩,
      ⟨(some 4), .mv (.tmp 10), none⟩]) (
    .ret)) (
    .skip)))) (
  .seq (.seq (.region 0 [⟨(some 11), .mv (.tmp 1), none⟩,
    ⟨(some 12), .bin .lss (.tmp 11) (.const (.int .i64 0)), none⟩,
    ⟨(some 13), .mv (.tmp 12), none⟩,
    ⟨(some 14), .mv (.tmp 1), (some (13, false))⟩,
    ⟨(some 15), .mv (.tmp 0), (some (13, false))⟩,
    ⟨(some 16), .nilc (.tmp 15), (some (13, false))⟩,
    ⟨(some 17), .fldA 1 (.tmp 16), (some (13, false))⟩,
    ⟨(some 18), .load none (.tmp 17), (some (13, false))⟩,
    ⟨(some 19), .ln (.tmp 18), (some (13, false))⟩,
    ⟨(some 20), .bin .geq (.tmp 14) (.tmp 19), (some (13, false))⟩,
    ⟨(some 21), .pick (.tmp 13) (.const (.bool true)) (.tmp 20), none⟩]) (
  .cond (.tmp 21) (
    .seq (.region 0 [⟨(some 4), .mv (.const (.int .i64 1)), none⟩]) (
    .ret)) (
    .skip))) (
  .seq (.region 0 [⟨(some 4), .mv (.const (.int .i64 0)), none⟩]) (
  .ret))))⟩

/-- (*sennet/post.Disk).power -/
def f30 : IFn := ⟨23, [.tmp 2],
  .seq (.region 0 [⟨(some 2), .mv (.const (.bool false)), none⟩]) (
  .seq (.seq (.region 0 [⟨(some 3), .mv (.tmp 0), none⟩,
    ⟨(some 4), .nilc (.tmp 3), none⟩,
    ⟨(some 5), .fldA 4 (.tmp 4), none⟩,
    ⟨(some 6), .load none (.tmp 5), none⟩,
    ⟨(some 7), .bin .eql (.tmp 6) (.const (.int .i64 0)), none⟩]) (
  .cond (.tmp 7) (
    .seq (.region 0 [⟨(some 8), .mv (.tmp 0), none⟩,
      ⟨(some 9), .nilc (.tmp 8), none⟩,
      ⟨(some 10), .fldA 3 (.tmp 9), none⟩,
      ⟨none, .store 1 (.tmp 10) (.const (.bool true)), none⟩]) (
    .seq (.region 0 [⟨(some 2), .mv (.const (.bool false)), none⟩]) (
    .ret))) (
    .skip))) (
  .seq (.seq (.region 0 [⟨(some 11), .mv (.tmp 0), none⟩,
    ⟨(some 12), .nilc (.tmp 11), none⟩,
    ⟨(some 13), .fldA 4 (.tmp 12), none⟩,
    ⟨(some 14), .load none (.tmp 13), none⟩,
    ⟨(some 15), .bin .gtr (.tmp 14) (.const (.int .i64 0)), none⟩]) (
  .cond (.tmp 15) (
    .region 0 [⟨(some 16), .mv (.tmp 0), none⟩,
      ⟨(some 17), .nilc (.tmp 16), none⟩,
      ⟨(some 18), .fldA 4 (.tmp 17), none⟩,
      ⟨(some 19), .load none (.tmp 18), none⟩,
      ⟨(some 20), .bin .sub (.tmp 19) (.const (.int .i64 1)), none⟩,
      ⟨(some 21), .nilc (.tmp 16), none⟩,
      ⟨(some 22), .fldA 4 (.tmp 21), none⟩,
      ⟨none, .store 1 (.tmp 22) (.tmp 20), none⟩]) (
    .skip))) (
  .seq (.region 0 [⟨(some 2), .mv (.const (.bool true)), none⟩]) (
  .ret))))⟩

/-- (*sennet/post.Disk).state -/
def f31 : IFn := ⟨9, [.tmp 2],
  .seq (.region 0 [⟨(some 2), .mv (.const (.int .i64 0)), none⟩]) (
  .seq (.seq (.region 0 [⟨(some 3), .mv (.tmp 0), none⟩,
    ⟨(some 4), .eqn .ptr false (.tmp 3) (.const (.pointer none)), none⟩]) (
  .cond (.tmp 4) (
    .seq (.region 0 [⟨(some 2), .mv (.const (.int .i64 3)), none⟩]) (
    .ret)) (
    .skip))) (
  .seq (.seq (.region 0 [⟨(some 5), .mv (.tmp 0), none⟩,
    ⟨(some 6), .nilc (.tmp 5), none⟩,
    ⟨(some 7), .fldA 3 (.tmp 6), none⟩,
    ⟨(some 8), .load none (.tmp 7), none⟩]) (
  .cond (.tmp 8) (
    .seq (.region 0 [⟨(some 2), .mv (.const (.int .i64 80)), none⟩]) (
    .ret)) (
    .skip))) (
  .seq (.region 0 [⟨(some 2), .mv (.const (.int .i64 0)), none⟩]) (
  .ret))))⟩

/-- slices.Clone[[]byte,byte] -/
def f32 : IFn := ⟨8, [.tmp 2],
  .seq (.region 0 [⟨(some 2), .mv (.const (.slice none 0 0)), none⟩]) (
  .seq (.seq (.region 0 [⟨(some 3), .mv (.tmp 0), none⟩,
    ⟨(some 4), .eqn .slice false (.tmp 3) (.const (.slice none 0 0)), none⟩]) (
  .cond (.tmp 4) (
    .seq (.region 0 [⟨(some 2), .mv (.const (.slice none 0 0)), none⟩]) (
    .ret)) (
    .skip))) (
  .seq (.region 2 [⟨(some 5), .bslice 5 1 [] 0 [], none⟩,
    ⟨(some 6), .mv (.tmp 0), none⟩,
    ⟨(some 7), .app 5 1 1 [(.int .u8 0)] (.tmp 5) (.tmp 6), none⟩,
    ⟨(some 2), .mv (.tmp 7), none⟩]) (
  .ret)))⟩

/-- sennet/sennetref08.NewDisk -/
def f33 : IFn := ⟨30, [.tmp 2, .tmp 3],
  .seq (.region 0 [⟨(some 2), .mv (.const (.pointer none)), none⟩,
    ⟨(some 3), .mv (.const (.int .i64 0)), none⟩]) (
  .seq (.seq (.region 0 [⟨(some 6), .mv (.tmp 0), none⟩,
    ⟨(some 7), .bin .lss (.tmp 6) (.const (.int .i64 16)), none⟩,
    ⟨(some 8), .mv (.tmp 7), none⟩,
    ⟨(some 9), .mv (.tmp 0), (some (8, false))⟩,
    ⟨(some 10), .bin .gtr (.tmp 9) (.const (.int .i64 65536)), (some (8, false))⟩,
    ⟨(some 11), .pick (.tmp 8) (.const (.bool true)) (.tmp 10), none⟩]) (
  .cond (.tmp 11) (
    .seq (.region 0 [⟨(some 2), .mv (.const (.pointer none)), none⟩,
      ⟨(some 3), .mv (.const (.int .i64 1)), none⟩]) (
    .ret)) (
    .skip))) (
  .seq (.region 1 [⟨(some 12), .build [(.slice none 0 0), (.slice none 0 0), (.int .i64 0), (.bool false)] [(2, 1, (.const (.int .i64 (-1))))], none⟩,
    ⟨(some 13), .box 47 (.tmp 12), none⟩,
    ⟨(some 4), .mv (.tmp 13), none⟩]) (
  .seq (.seq (.region 0 [⟨(some 5), .mv (.const (.int .i64 0)), none⟩]) (
  .block 0 (
    .loop (
      .seq (.seq (.region 0 [⟨(some 14), .mv (.tmp 5), none⟩,
        ⟨(some 15), .mv (.tmp 0), none⟩,
        ⟨(some 16), .bin .lss (.tmp 14) (.tmp 15), none⟩]) (
      .cond (.tmp 16) (
        .skip) (
        .exit 0))) (
      .seq (.block 1 (
        .draw 2 [⟨0, 0, 0, ⟨(some 19), .mv (.tmp 4), none⟩⟩,
          ⟨1, 0, 0, ⟨(some 20), .mv (.tmp 4), none⟩⟩,
          ⟨2, 0, 2, ⟨(some 21), .nilc (.tmp 20), none⟩⟩,
          ⟨3, 0, 6, ⟨(some 22), .fldA 0 (.tmp 21), none⟩⟩,
          ⟨4, 0, 14, ⟨(some 23), .load none (.tmp 22), none⟩⟩,
          ⟨5, 0, 0, ⟨(some 24), .call (.func 46) [(.const (.string ⟨#[]⟩))], none⟩⟩,
          ⟨6, 0, 32, ⟨(some 25), .bslice 9 1 [(.string ⟨#[]⟩)] 1 [(0, 1, (.tmp 24))], none⟩⟩,
          ⟨7, 1, 126, ⟨(some 26), .app 9 1 16 [(.string ⟨#[]⟩)] (.tmp 23) (.tmp 25), none⟩⟩,
          ⟨8, 2, 255, ⟨(some 27), .nilc (.tmp 19), none⟩⟩,
          ⟨9, 2, 511, ⟨(some 28), .fldA 0 (.tmp 27), none⟩⟩,
          ⟨10, 2, 1023, ⟨none, .store 1 (.tmp 28) (.tmp 26), none⟩⟩])) (
      .region 0 [⟨(some 17), .mv (.tmp 5), none⟩,
        ⟨(some 18), .bin .add (.tmp 17) (.const (.int .i64 1)), none⟩,
        ⟨(some 5), .mv (.tmp 18), none⟩])))))) (
  .seq (.region 0 [⟨(some 29), .mv (.tmp 4), none⟩,
    ⟨(some 2), .mv (.tmp 29), none⟩,
    ⟨(some 3), .mv (.const (.int .i64 0)), none⟩]) (
  .ret)))))⟩

/-- (*sennet/sennetref08.Disk).Read -/
def f34 : IFn := ⟨58, [.tmp 4, .tmp 5],
  .seq (.region 0 [⟨(some 4), .mv (.const (.string ⟨#[]⟩)), none⟩,
    ⟨(some 5), .mv (.const (.int .i64 0)), none⟩]) (
  .seq (.seq (.region 0 [⟨(some 8), .mv (.tmp 0), none⟩,
    ⟨(some 9), .nilc (.tmp 8), none⟩,
    ⟨(some 10), .fldA 3 (.tmp 9), none⟩,
    ⟨(some 11), .load none (.tmp 10), none⟩]) (
  .cond (.tmp 11) (
    .seq (.region 0 [⟨(some 4), .mv (.const (.string ⟨#[]⟩)), none⟩,
      ⟨(some 5), .mv (.const (.int .i64 80)), none⟩]) (
    .ret)) (
    .skip))) (
  .seq (.seq (.region 0 [⟨(some 12), .mv (.tmp 1), none⟩,
    ⟨(some 13), .bin .lss (.tmp 12) (.const (.int .i64 0)), none⟩,
    ⟨(some 14), .mv (.tmp 13), none⟩,
    ⟨(some 15), .mv (.tmp 1), (some (14, false))⟩,
    ⟨(some 16), .mv (.tmp 0), (some (14, false))⟩,
    ⟨(some 17), .nilc (.tmp 16), (some (14, false))⟩,
    ⟨(some 18), .fldA 0 (.tmp 17), (some (14, false))⟩,
    ⟨(some 19), .load none (.tmp 18), (some (14, false))⟩,
    ⟨(some 20), .ln (.tmp 19), (some (14, false))⟩,
    ⟨(some 21), .bin .geq (.tmp 15) (.tmp 20), (some (14, false))⟩,
    ⟨(some 22), .pick (.tmp 14) (.const (.bool true)) (.tmp 21), none⟩]) (
  .cond (.tmp 22) (
    .seq (.region 0 [⟨(some 4), .mv (.const (.string ⟨#[]⟩)), none⟩,
      ⟨(some 5), .mv (.const (.int .i64 1)), none⟩]) (
    .ret)) (
    .skip))) (
  .seq (.region 0 [⟨(some 23), .mv (.tmp 0), none⟩,
    ⟨(some 24), .nilc (.tmp 23), none⟩,
    ⟨(some 25), .fldA 0 (.tmp 24), none⟩,
    ⟨(some 26), .load none (.tmp 25), none⟩,
    ⟨(some 27), .mv (.tmp 1), none⟩,
    ⟨(some 28), .idxA none 1 (.tmp 26) (.tmp 27), none⟩,
    ⟨(some 29), .load none (.tmp 28), none⟩,
    ⟨(some 6), .mv (.tmp 29), none⟩]) (
  .seq (.seq (.region 0 [⟨(some 7), .mv (.const (.int .i64 0)), none⟩]) (
  .block 0 (
    .loop (
      .seq (.seq (.region 0 [⟨(some 30), .mv (.tmp 7), none⟩,
        ⟨(some 31), .mv (.tmp 0), none⟩,
        ⟨(some 32), .nilc (.tmp 31), none⟩,
        ⟨(some 33), .fldA 1 (.tmp 32), none⟩,
        ⟨(some 34), .load none (.tmp 33), none⟩,
        ⟨(some 35), .ln (.tmp 34), none⟩,
        ⟨(some 36), .bin .lss (.tmp 30) (.tmp 35), none⟩]) (
      .cond (.tmp 36) (
        .skip) (
        .exit 0))) (
      .seq (.block 1 (
        .seq (.region 0 [⟨(some 39), .mv (.tmp 0), none⟩,
          ⟨(some 40), .nilc (.tmp 39), none⟩,
          ⟨(some 41), .fldA 1 (.tmp 40), none⟩,
          ⟨(some 42), .load none (.tmp 41), none⟩,
          ⟨(some 43), .mv (.tmp 7), none⟩,
          ⟨(some 44), .idxA none 2 (.tmp 42) (.tmp 43), none⟩,
          ⟨(some 45), .fldA 0 (.tmp 44), none⟩,
          ⟨(some 46), .load none (.tmp 45), none⟩,
          ⟨(some 47), .mv (.tmp 1), none⟩,
          ⟨(some 48), .bin .eql (.tmp 46) (.tmp 47), none⟩]) (
        .cond (.tmp 48) (
          .region 0 [⟨(some 49), .mv (.tmp 0), none⟩,
            ⟨(some 50), .nilc (.tmp 49), none⟩,
            ⟨(some 51), .fldA 1 (.tmp 50), none⟩,
            ⟨(some 52), .load none (.tmp 51), none⟩,
            ⟨(some 53), .mv (.tmp 7), none⟩,
            ⟨(some 54), .idxA none 2 (.tmp 52) (.tmp 53), none⟩,
            ⟨(some 55), .fldA 1 (.tmp 54), none⟩,
            ⟨(some 56), .load none (.tmp 55), none⟩,
            ⟨(some 6), .mv (.tmp 56), none⟩]) (
          .skip)))) (
      .region 0 [⟨(some 37), .mv (.tmp 7), none⟩,
        ⟨(some 38), .bin .add (.tmp 37) (.const (.int .i64 1)), none⟩,
        ⟨(some 7), .mv (.tmp 38), none⟩])))))) (
  .seq (.region 0 [⟨(some 57), .mv (.tmp 6), none⟩,
    ⟨(some 4), .mv (.tmp 57), none⟩,
    ⟨(some 5), .mv (.const (.int .i64 0)), none⟩]) (
  .ret))))))⟩

/-- (*sennet/sennetref08.Disk).Write -/
def f35 : IFn := ⟨41, [.tmp 6],
  .seq (.region 0 [⟨(some 6), .mv (.const (.int .i64 0)), none⟩]) (
  .seq (.seq (.region 0 [⟨(some 7), .mv (.tmp 0), none⟩,
    ⟨(some 8), .nilc (.tmp 7), none⟩,
    ⟨(some 9), .fldA 3 (.tmp 8), none⟩,
    ⟨(some 10), .load none (.tmp 9), none⟩]) (
  .cond (.tmp 10) (
    .seq (.region 0 [⟨(some 6), .mv (.const (.int .i64 80)), none⟩]) (
    .ret)) (
    .skip))) (
  .seq (.seq (.region 0 [⟨(some 11), .mv (.tmp 1), none⟩,
    ⟨(some 12), .bin .lss (.tmp 11) (.const (.int .i64 0)), none⟩,
    ⟨(some 13), .mv (.tmp 12), none⟩,
    ⟨(some 14), .mv (.tmp 1), (some (13, false))⟩,
    ⟨(some 15), .mv (.tmp 0), (some (13, false))⟩,
    ⟨(some 16), .nilc (.tmp 15), (some (13, false))⟩,
    ⟨(some 17), .fldA 0 (.tmp 16), (some (13, false))⟩,
    ⟨(some 18), .load none (.tmp 17), (some (13, false))⟩,
    ⟨(some 19), .ln (.tmp 18), (some (13, false))⟩,
    ⟨(some 20), .bin .geq (.tmp 14) (.tmp 19), (some (13, false))⟩,
    ⟨(some 21), .pick (.tmp 13) (.const (.bool true)) (.tmp 20), none⟩]) (
  .cond (.tmp 21) (
    .seq (.region 0 [⟨(some 6), .mv (.const (.int .i64 1)), none⟩]) (
    .ret)) (
    .skip))) (
  .seq (.seq (.region 0 [⟨(some 22), .mv (.tmp 2), none⟩,
    ⟨(some 23), .sln (.tmp 22), none⟩,
    ⟨(some 24), .bin .gtr (.tmp 23) (.const (.int .i64 64)), none⟩]) (
  .cond (.tmp 24) (
    .seq (.region 0 [⟨(some 6), .mv (.const (.int .i64 2)), none⟩]) (
    .ret)) (
    .skip))) (
  .seq (.seq (.region 0 [⟨(some 25), .mv (.tmp 0), none⟩,
    ⟨(some 26), .call (.func 47) [(.tmp 25)], none⟩,
    ⟨(some 27), .un .not (.tmp 26), none⟩]) (
  .cond (.tmp 27) (
    .seq (.region 0 [⟨(some 6), .mv (.const (.int .i64 80)), none⟩]) (
    .ret)) (
    .skip))) (
  .seq (.draw 2 [⟨0, 0, 0, ⟨(some 28), .mv (.tmp 0), none⟩⟩,
    ⟨1, 0, 0, ⟨(some 29), .mv (.tmp 0), none⟩⟩,
    ⟨2, 0, 2, ⟨(some 30), .nilc (.tmp 29), none⟩⟩,
    ⟨3, 0, 6, ⟨(some 31), .fldA 1 (.tmp 30), none⟩⟩,
    ⟨4, 0, 14, ⟨(some 32), .load none (.tmp 31), none⟩⟩,
    ⟨5, 0, 0, ⟨(some 33), .mv (.tmp 1), none⟩⟩,
    ⟨6, 0, 0, ⟨(some 34), .mv (.tmp 2), none⟩⟩,
    ⟨7, 0, 64, ⟨(some 35), .call (.func 46) [(.tmp 34)], none⟩⟩,
    ⟨8, 0, 224, ⟨(some 36), .build [(.int .i64 0), (.string ⟨#[]⟩)] [(0, 1, (.tmp 33)), (1, 1, (.tmp 35))], none⟩⟩,
    ⟨9, 0, 480, ⟨(some 37), .bslice 94 2 [(.int .i64 0), (.string ⟨#[]⟩)] 1 [(0, 2, (.tmp 36))], none⟩⟩,
    ⟨10, 1, 1022, ⟨(some 38), .app 94 2 24 [(.int .i64 0), (.string ⟨#[]⟩)] (.tmp 32) (.tmp 37), none⟩⟩,
    ⟨11, 2, 2047, ⟨(some 39), .nilc (.tmp 28), none⟩⟩,
    ⟨12, 2, 4095, ⟨(some 40), .fldA 1 (.tmp 39), none⟩⟩,
    ⟨13, 2, 8191, ⟨none, .store 1 (.tmp 40) (.tmp 38), none⟩⟩]) (
  .seq (.region 0 [⟨(some 6), .mv (.const (.int .i64 0)), none⟩]) (
  .ret)))))))⟩

/-- (*sennet/sennetref08.Disk).Flush -/
def f36 : IFn := ⟨46, [.tmp 2],
  .seq (.region 0 [⟨(some 2), .mv (.const (.int .i64 0)), none⟩]) (
  .seq (.seq (.region 0 [⟨(some 4), .mv (.tmp 0), none⟩,
    ⟨(some 5), .nilc (.tmp 4), none⟩,
    ⟨(some 6), .fldA 3 (.tmp 5), none⟩,
    ⟨(some 7), .load none (.tmp 6), none⟩,
    ⟨(some 8), .mv (.tmp 7), none⟩,
    ⟨(some 9), .mv (.tmp 0), (some (8, false))⟩,
    ⟨(some 10), .call (.func 47) [(.tmp 9)], (some (8, false))⟩,
    ⟨(some 11), .un .not (.tmp 10), (some (8, false))⟩,
    ⟨(some 12), .pick (.tmp 8) (.const (.bool true)) (.tmp 11), none⟩]) (
  .cond (.tmp 12) (
    .seq (.region 0 [⟨(some 2), .mv (.const (.int .i64 80)), none⟩]) (
    .ret)) (
    .skip))) (
  .seq (.seq (.region 0 [⟨(some 3), .mv (.const (.int .i64 0)), none⟩]) (
  .block 0 (
    .loop (
      .seq (.seq (.region 0 [⟨(some 13), .mv (.tmp 3), none⟩,
        ⟨(some 14), .mv (.tmp 0), none⟩,
        ⟨(some 15), .nilc (.tmp 14), none⟩,
        ⟨(some 16), .fldA 1 (.tmp 15), none⟩,
        ⟨(some 17), .load none (.tmp 16), none⟩,
        ⟨(some 18), .ln (.tmp 17), none⟩,
        ⟨(some 19), .bin .lss (.tmp 13) (.tmp 18), none⟩]) (
      .cond (.tmp 19) (
        .skip) (
        .exit 0))) (
      .seq (.block 1 (
        .draw 0 [⟨0, 0, 0, ⟨(some 22), .mv (.tmp 0), none⟩⟩,
          ⟨1, 0, 1, ⟨(some 23), .nilc (.tmp 22), none⟩⟩,
          ⟨2, 0, 3, ⟨(some 24), .fldA 0 (.tmp 23), none⟩⟩,
          ⟨3, 0, 7, ⟨(some 25), .load none (.tmp 24), none⟩⟩,
          ⟨4, 0, 0, ⟨(some 26), .mv (.tmp 0), none⟩⟩,
          ⟨5, 0, 16, ⟨(some 27), .nilc (.tmp 26), none⟩⟩,
          ⟨6, 0, 48, ⟨(some 28), .fldA 1 (.tmp 27), none⟩⟩,
          ⟨7, 0, 112, ⟨(some 29), .load none (.tmp 28), none⟩⟩,
          ⟨8, 0, 0, ⟨(some 30), .mv (.tmp 3), none⟩⟩,
          ⟨9, 0, 496, ⟨(some 31), .idxA none 2 (.tmp 29) (.tmp 30), none⟩⟩,
          ⟨10, 0, 1008, ⟨(some 32), .fldA 0 (.tmp 31), none⟩⟩,
          ⟨11, 0, 2032, ⟨(some 33), .load none (.tmp 32), none⟩⟩,
          ⟨12, 0, 0, ⟨(some 34), .mv (.tmp 0), none⟩⟩,
          ⟨13, 0, 4096, ⟨(some 35), .nilc (.tmp 34), none⟩⟩,
          ⟨14, 0, 12288, ⟨(some 36), .fldA 1 (.tmp 35), none⟩⟩,
          ⟨15, 0, 28672, ⟨(some 37), .load none (.tmp 36), none⟩⟩,
          ⟨16, 0, 0, ⟨(some 38), .mv (.tmp 3), none⟩⟩,
          ⟨17, 0, 126976, ⟨(some 39), .idxA none 2 (.tmp 37) (.tmp 38), none⟩⟩,
          ⟨18, 0, 258048, ⟨(some 40), .fldA 1 (.tmp 39), none⟩⟩,
          ⟨19, 0, 520192, ⟨(some 41), .load none (.tmp 40), none⟩⟩,
          ⟨20, 0, 1048575, ⟨(some 42), .idxA none 1 (.tmp 25) (.tmp 33), none⟩⟩,
          ⟨21, 0, 2097151, ⟨none, .store 1 (.tmp 42) (.tmp 41), none⟩⟩])) (
      .region 0 [⟨(some 20), .mv (.tmp 3), none⟩,
        ⟨(some 21), .bin .add (.tmp 20) (.const (.int .i64 1)), none⟩,
        ⟨(some 3), .mv (.tmp 21), none⟩])))))) (
  .seq (.region 0 [⟨(some 43), .mv (.tmp 0), none⟩,
    ⟨(some 44), .nilc (.tmp 43), none⟩,
    ⟨(some 45), .fldA 1 (.tmp 44), none⟩,
    ⟨none, .store 1 (.tmp 45) (.const (.slice none 0 0)), none⟩]) (
  .seq (.region 0 [⟨(some 2), .mv (.const (.int .i64 0)), none⟩]) (
  .ret)))))⟩

/-- (*sennet/sennetref08.Disk).Stop -/
def f37 : IFn := ⟨15, [.tmp 4],
  .seq (.region 0 [⟨(some 4), .mv (.const (.int .i64 0)), none⟩]) (
  .seq (.seq (.region 0 [⟨(some 5), .mv (.tmp 0), none⟩,
    ⟨(some 6), .nilc (.tmp 5), none⟩,
    ⟨(some 7), .fldA 3 (.tmp 6), none⟩,
    ⟨(some 8), .load none (.tmp 7), none⟩]) (
  .cond (.tmp 8) (
    .seq (.region 0 [⟨(some 4), .mv (.const (.int .i64 80)), none⟩]) (
    .ret)) (
    .skip))) (
  .seq (.seq (.region 0 [⟨(some 9), .mv (.tmp 1), none⟩,
    ⟨(some 10), .bin .lss (.tmp 9) (.const (.int .i64 0)), none⟩]) (
  .cond (.tmp 10) (
    .seq (.region 0 [⟨(some 4), .mv (.const (.int .i64 1)), none⟩]) (
    .ret)) (
    .skip))) (
  .seq (.region 0 [⟨(some 11), .mv (.tmp 0), none⟩,
    ⟨(some 12), .mv (.tmp 1), none⟩,
    ⟨(some 13), .nilc (.tmp 11), none⟩,
    ⟨(some 14), .fldA 2 (.tmp 13), none⟩,
    ⟨none, .store 1 (.tmp 14) (.tmp 12), none⟩]) (
  .seq (.region 0 [⟨(some 4), .mv (.const (.int .i64 0)), none⟩]) (
  .ret)))))⟩

/-- (*sennet/sennetref08.Disk).Crash -/
def f38 : IFn := ⟨64, [],
  .seq (.seq (.region 0 [⟨(some 4), .mv (.const (.int .i64 0)), none⟩]) (
  .block 0 (
    .loop (
      .seq (.seq (.region 0 [⟨(some 7), .mv (.tmp 4), none⟩,
        ⟨(some 8), .mv (.tmp 0), none⟩,
        ⟨(some 9), .nilc (.tmp 8), none⟩,
        ⟨(some 10), .fldA 1 (.tmp 9), none⟩,
        ⟨(some 11), .load none (.tmp 10), none⟩,
        ⟨(some 12), .ln (.tmp 11), none⟩,
        ⟨(some 13), .bin .lss (.tmp 7) (.tmp 12), none⟩]) (
      .cond (.tmp 13) (
        .skip) (
        .exit 0))) (
      .seq (.block 1 (
        .seq (.region 0 [⟨(some 5), .mv (.const (.int .i64 0)), none⟩]) (
        .seq (.seq (.region 0 [⟨(some 16), .mv (.tmp 4), none⟩,
          ⟨(some 17), .mv (.tmp 1), none⟩,
          ⟨(some 18), .ln (.tmp 17), none⟩,
          ⟨(some 19), .bin .lss (.tmp 16) (.tmp 18), none⟩]) (
        .cond (.tmp 19) (
          .region 0 [⟨(some 20), .mv (.tmp 1), none⟩,
            ⟨(some 21), .mv (.tmp 4), none⟩,
            ⟨(some 22), .idxA none 1 (.tmp 20) (.tmp 21), none⟩,
            ⟨(some 23), .load none (.tmp 22), none⟩,
            ⟨(some 24), .maxb [(.tmp 23), (.const (.int .i64 0))], none⟩,
            ⟨(some 25), .minb [(.tmp 24), (.const (.int .i64 64))], none⟩,
            ⟨(some 5), .mv (.tmp 25), none⟩]) (
          .skip))) (
        .seq (.region 1 [⟨(some 26), .mv (.tmp 0), none⟩,
          ⟨(some 27), .nilc (.tmp 26), none⟩,
          ⟨(some 28), .fldA 1 (.tmp 27), none⟩,
          ⟨(some 29), .load none (.tmp 28), none⟩,
          ⟨(some 30), .mv (.tmp 4), none⟩,
          ⟨(some 31), .idxA none 2 (.tmp 29) (.tmp 30), none⟩,
          ⟨(some 32), .load (some 2) (.tmp 31), none⟩,
          ⟨(some 6), .alloc 94 [(.int .i64 0), (.string ⟨#[]⟩)], none⟩,
          ⟨none, .store 2 (.tmp 6) (.tmp 32), none⟩]) (
        .draw 0 [⟨0, 0, 0, ⟨(some 33), .mv (.tmp 0), none⟩⟩,
          ⟨1, 0, 1, ⟨(some 34), .nilc (.tmp 33), none⟩⟩,
          ⟨2, 0, 3, ⟨(some 35), .fldA 0 (.tmp 34), none⟩⟩,
          ⟨3, 0, 7, ⟨(some 36), .load none (.tmp 35), none⟩⟩,
          ⟨4, 0, 0, ⟨(some 37), .fldA 0 (.tmp 6), none⟩⟩,
          ⟨5, 0, 16, ⟨(some 38), .load none (.tmp 37), none⟩⟩,
          ⟨6, 0, 0, ⟨(some 39), .fldA 1 (.tmp 6), none⟩⟩,
          ⟨7, 0, 64, ⟨(some 40), .load none (.tmp 39), none⟩⟩,
          ⟨8, 0, 0, ⟨(some 41), .mv (.tmp 5), none⟩⟩,
          ⟨9, 0, 448, ⟨(some 42), .sslc (.tmp 40) none (some (.tmp 41)), none⟩⟩,
          ⟨10, 0, 0, ⟨(some 43), .mv (.tmp 0), none⟩⟩,
          ⟨11, 0, 1024, ⟨(some 44), .nilc (.tmp 43), none⟩⟩,
          ⟨12, 0, 3072, ⟨(some 45), .fldA 0 (.tmp 44), none⟩⟩,
          ⟨13, 0, 7168, ⟨(some 46), .load none (.tmp 45), none⟩⟩,
          ⟨14, 0, 0, ⟨(some 47), .fldA 0 (.tmp 6), none⟩⟩,
          ⟨15, 0, 16384, ⟨(some 48), .load none (.tmp 47), none⟩⟩,
          ⟨16, 0, 64512, ⟨(some 49), .idxA none 1 (.tmp 46) (.tmp 48), none⟩⟩,
          ⟨17, 0, 130048, ⟨(some 50), .load none (.tmp 49), none⟩⟩,
          ⟨18, 0, 0, ⟨(some 51), .mv (.tmp 5), none⟩⟩,
          ⟨19, 0, 523264, ⟨(some 52), .sslc (.tmp 50) (some (.tmp 51)) none, none⟩⟩,
          ⟨20, 0, 1048512, ⟨(some 53), .bin .add (.tmp 42) (.tmp 52), none⟩⟩,
          ⟨21, 0, 2097151, ⟨(some 54), .idxA none 1 (.tmp 36) (.tmp 38), none⟩⟩,
          ⟨22, 0, 4194303, ⟨none, .store 1 (.tmp 54) (.tmp 53), none⟩⟩]))))) (
      .region 0 [⟨(some 14), .mv (.tmp 4), none⟩,
        ⟨(some 15), .bin .add (.tmp 14) (.const (.int .i64 1)), none⟩,
        ⟨(some 4), .mv (.tmp 15), none⟩])))))) (
  .seq (.region 0 [⟨(some 55), .mv (.tmp 0), none⟩,
    ⟨(some 56), .nilc (.tmp 55), none⟩,
    ⟨(some 57), .fldA 1 (.tmp 56), none⟩,
    ⟨none, .store 1 (.tmp 57) (.const (.slice none 0 0)), none⟩]) (
  .seq (.region 0 [⟨(some 58), .mv (.tmp 0), none⟩,
    ⟨(some 59), .nilc (.tmp 58), none⟩,
    ⟨(some 60), .fldA 2 (.tmp 59), none⟩,
    ⟨none, .store 1 (.tmp 60) (.const (.int .i64 (-1))), none⟩]) (
  .region 0 [⟨(some 61), .mv (.tmp 0), none⟩,
    ⟨(some 62), .nilc (.tmp 61), none⟩,
    ⟨(some 63), .fldA 3 (.tmp 62), none⟩,
    ⟨none, .store 1 (.tmp 63) (.const (.bool false)), none⟩])))⟩

/-- (*sennet/post.Journal).read -/
def f39 : IFn := ⟨54, [.tmp 4, .tmp 5, .tmp 6],
  .seq (.region 0 [⟨(some 4), .mv (.const (.string ⟨#[]⟩)), none⟩,
    ⟨(some 5), .mv (.const (.int .i64 0)), none⟩,
    ⟨(some 6), .mv (.const (.bool false)), none⟩]) (
  .seq (.region 1 [⟨(some 13), .mv (.tmp 0), none⟩,
    ⟨(some 14), .mv (.tmp 1), none⟩,
    ⟨(some 15), .call (.func 48) [(.tmp 13), (.tmp 14), (.const (.int .u8 1))], none⟩,
    ⟨(some 12), .mv (.tmp 15), none⟩,
    ⟨(some 16), .extr (.tmp 12) 0, none⟩,
    ⟨(some 17), .extr (.tmp 12) 1, none⟩,
    ⟨(some 7), .alloc 75 (reps 64 (.int .u8 0)), none⟩,
    ⟨none, .store 64 (.tmp 7) (.tmp 16), none⟩,
    ⟨(some 8), .mv (.tmp 17), none⟩]) (
  .seq (.seq (.region 0 [⟨(some 18), .mv (.tmp 8), none⟩,
    ⟨(some 19), .un .not (.tmp 18), none⟩]) (
  .cond (.tmp 19) (
    .seq (.region 0 [⟨(some 20), .mv (.tmp 1), none⟩,
      ⟨(some 4), .mv (.const (.string ⟨#[]⟩)), none⟩,
      ⟨(some 5), .mv (.tmp 20), none⟩,
      ⟨(some 6), .mv (.const (.bool false)), none⟩]) (
    .ret)) (
    .skip))) (
  .seq (.region 0 [⟨(some 21), .load (some 64) (.tmp 7), none⟩,
    ⟨(some 22), .call (.func 49) [(.tmp 21)], none⟩,
    ⟨(some 9), .mv (.tmp 22), none⟩]) (
  .seq (.region 0 [⟨(some 10), .mv (.const (.slice none 0 0)), none⟩]) (
  .block 0 (
    .loop (
      .block 1 (
        .seq (.seq (.region 0 [⟨(some 23), .load (some 64) (.tmp 7), none⟩,
          ⟨(some 24), .call (.func 49) [(.tmp 23)], none⟩,
          ⟨(some 25), .mv (.tmp 9), none⟩,
          ⟨(some 26), .bin .neq (.tmp 24) (.tmp 25), none⟩]) (
        .cond (.tmp 26) (
          .seq (.region 0 [⟨(some 27), .mv (.tmp 1), none⟩,
            ⟨(some 4), .mv (.const (.string ⟨#[]⟩)), none⟩,
            ⟨(some 5), .mv (.tmp 27), none⟩,
            ⟨(some 6), .mv (.const (.bool false)), none⟩]) (
          .ret)) (
          .skip))) (
        .seq (.region 0 [⟨(some 28), .mv (.tmp 1), none⟩,
          ⟨(some 29), .bin .add (.tmp 28) (.const (.int .i64 1)), none⟩,
          ⟨(some 1), .mv (.tmp 29), none⟩]) (
        .seq (.region 0 [⟨(some 30), .mv (.tmp 9), none⟩,
          ⟨(some 31), .minb [(.tmp 30), (.const (.int .i64 59))], none⟩,
          ⟨(some 11), .mv (.tmp 31), none⟩]) (
        .seq (.region 1 [⟨(some 32), .mv (.tmp 10), none⟩,
          ⟨(some 33), .mv (.tmp 11), none⟩,
          ⟨(some 34), .bin .add (.const (.int .i64 4)) (.tmp 33), none⟩,
          ⟨(some 35), .aslc 64 1 (.tmp 7) (some (.const (.int .i64 4))) (some (.tmp 34)) none, none⟩,
          ⟨(some 36), .app 5 1 1 [(.int .u8 0)] (.tmp 32) (.tmp 35), none⟩,
          ⟨(some 10), .mv (.tmp 36), none⟩]) (
        .seq (.region 0 [⟨(some 37), .mv (.tmp 9), none⟩,
          ⟨(some 38), .mv (.tmp 11), none⟩,
          ⟨(some 39), .bin .sub (.tmp 37) (.tmp 38), none⟩,
          ⟨(some 9), .mv (.tmp 39), none⟩]) (
        .seq (.seq (.region 0 [⟨(some 40), .mv (.tmp 9), none⟩,
          ⟨(some 41), .bin .eql (.tmp 40) (.const (.int .i64 0)), none⟩]) (
        .cond (.tmp 41) (
          .seq (.region 0 [⟨(some 42), .mv (.tmp 10), none⟩,
            ⟨(some 43), .b2s (.tmp 42), none⟩,
            ⟨(some 44), .mv (.tmp 1), none⟩,
            ⟨(some 4), .mv (.tmp 43), none⟩,
            ⟨(some 5), .mv (.tmp 44), none⟩,
            ⟨(some 6), .mv (.const (.bool true)), none⟩]) (
          .ret)) (
          .skip))) (
        .seq (.region 0 [⟨(some 46), .mv (.tmp 0), none⟩,
          ⟨(some 47), .mv (.tmp 1), none⟩,
          ⟨(some 48), .call (.func 48) [(.tmp 46), (.tmp 47), (.const (.int .u8 2))], none⟩,
          ⟨(some 45), .mv (.tmp 48), none⟩,
          ⟨(some 49), .extr (.tmp 45) 0, none⟩,
          ⟨(some 50), .extr (.tmp 45) 1, none⟩,
          ⟨none, .store 64 (.tmp 7) (.tmp 49), none⟩,
          ⟨(some 8), .mv (.tmp 50), none⟩]) (
        .seq (.region 0 [⟨(some 51), .mv (.tmp 8), none⟩,
          ⟨(some 52), .un .not (.tmp 51), none⟩]) (
        .cond (.tmp 52) (
          .seq (.region 0 [⟨(some 53), .mv (.tmp 1), none⟩,
            ⟨(some 4), .mv (.const (.string ⟨#[]⟩)), none⟩,
            ⟨(some 5), .mv (.tmp 53), none⟩,
            ⟨(some 6), .mv (.const (.bool false)), none⟩]) (
          .ret)) (
          .skip)))))))))))))))))⟩

/-- (*sennet/post.Journal).wipe -/
def f40 : IFn := ⟨47, [.tmp 2],
  .seq (.region 0 [⟨(some 2), .mv (.const (.int .i64 0)), none⟩]) (
  .seq (.seq (.region 0 [⟨(some 5), .mv (.tmp 0), none⟩,
    ⟨(some 6), .nilc (.tmp 5), none⟩,
    ⟨(some 7), .fldA 1 (.tmp 6), none⟩,
    ⟨(some 8), .load none (.tmp 7), none⟩,
    ⟨(some 3), .mv (.tmp 8), none⟩]) (
  .block 0 (
    .loop (
      .seq (.seq (.region 0 [⟨(some 9), .mv (.tmp 3), none⟩,
        ⟨(some 10), .mv (.tmp 0), none⟩,
        ⟨(some 11), .nilc (.tmp 10), none⟩,
        ⟨(some 12), .fldA 0 (.tmp 11), none⟩,
        ⟨(some 13), .load none (.tmp 12), none⟩,
        ⟨(some 14), .nilc (.tmp 13), none⟩,
        ⟨(some 15), .fldA 1 (.tmp 14), none⟩,
        ⟨(some 16), .load none (.tmp 15), none⟩,
        ⟨(some 17), .ln (.tmp 16), none⟩,
        ⟨(some 18), .bin .lss (.tmp 9) (.tmp 17), none⟩]) (
      .cond (.tmp 18) (
        .skip) (
        .exit 0))) (
      .seq (.block 1 (
        .seq (.seq (.region 0 [⟨(some 21), .mv (.tmp 0), none⟩,
          ⟨(some 22), .nilc (.tmp 21), none⟩,
          ⟨(some 23), .fldA 0 (.tmp 22), none⟩,
          ⟨(some 24), .load none (.tmp 23), none⟩,
          ⟨(some 25), .nilc (.tmp 24), none⟩,
          ⟨(some 26), .fldA 1 (.tmp 25), none⟩,
          ⟨(some 27), .load none (.tmp 26), none⟩,
          ⟨(some 28), .mv (.tmp 3), none⟩,
          ⟨(some 29), .idxA none 64 (.tmp 27) (.tmp 28), none⟩,
          ⟨(some 30), .load (some 64) (.tmp 29), none⟩,
          ⟨(some 31), .build (reps 64 (.int .u8 0)) [], none⟩,
          ⟨(some 32), .eqc false (reps 64 (.int .u8)) true (.tmp 30) (.tmp 31), none⟩]) (
        .cond (.tmp 32) (
          .exit 1) (
          .skip))) (
        .seq (.region 0 [⟨(some 33), .mv (.tmp 0), none⟩,
          ⟨(some 34), .nilc (.tmp 33), none⟩,
          ⟨(some 35), .fldA 0 (.tmp 34), none⟩,
          ⟨(some 36), .load none (.tmp 35), none⟩,
          ⟨(some 37), .mv (.tmp 3), none⟩,
          ⟨(some 38), .call (.func 10) [(.tmp 36), (.tmp 37), (.const (.slice none 0 0))], none⟩,
          ⟨(some 4), .mv (.tmp 38), none⟩]) (
        .seq (.region 0 [⟨(some 39), .mv (.tmp 4), none⟩,
          ⟨(some 40), .bin .neq (.tmp 39) (.const (.int .i64 0)), none⟩]) (
        .cond (.tmp 40) (
          .seq (.region 0 [⟨(some 41), .mv (.tmp 4), none⟩,
            ⟨(some 2), .mv (.tmp 41), none⟩]) (
          .ret)) (
          .skip)))))) (
      .region 0 [⟨(some 19), .mv (.tmp 3), none⟩,
        ⟨(some 20), .bin .add (.tmp 19) (.const (.int .i64 1)), none⟩,
        ⟨(some 3), .mv (.tmp 20), none⟩])))))) (
  .seq (.region 0 [⟨(some 42), .mv (.tmp 0), none⟩,
    ⟨(some 43), .nilc (.tmp 42), none⟩,
    ⟨(some 44), .fldA 0 (.tmp 43), none⟩,
    ⟨(some 45), .load none (.tmp 44), none⟩,
    ⟨(some 46), .call (.func 11) [(.tmp 45)], none⟩,
    ⟨(some 2), .mv (.tmp 46), none⟩]) (
  .ret)))⟩

/-- (*sennet/post.Journal).put -/
def f41 : IFn := ⟨79, [.tmp 4],
  .seq (.region 0 [⟨(some 4), .mv (.const (.int .i64 0)), none⟩]) (
  .seq (.seq (.region 0 [⟨(some 10), .mv (.tmp 0), none⟩,
    ⟨(some 11), .nilc (.tmp 10), none⟩,
    ⟨(some 12), .fldA 0 (.tmp 11), none⟩,
    ⟨(some 13), .load none (.tmp 12), none⟩,
    ⟨(some 14), .nilc (.tmp 13), none⟩,
    ⟨(some 15), .fldA 3 (.tmp 14), none⟩,
    ⟨(some 16), .load none (.tmp 15), none⟩]) (
  .cond (.tmp 16) (
    .seq (.region 0 [⟨(some 4), .mv (.const (.int .i64 80)), none⟩]) (
    .ret)) (
    .skip))) (
  .seq (.region 0 [⟨(some 17), .mv (.tmp 1), none⟩,
    ⟨(some 18), .sln (.tmp 17), none⟩,
    ⟨(some 19), .bin .add (.tmp 18) (.const (.int .i64 59)), none⟩,
    ⟨(some 20), .bin .sub (.tmp 19) (.const (.int .i64 1)), none⟩,
    ⟨(some 21), .bin .quo (.tmp 20) (.const (.int .i64 59)), none⟩,
    ⟨(some 22), .maxb [(.const (.int .i64 1)), (.tmp 21)], none⟩,
    ⟨(some 5), .mv (.tmp 22), none⟩]) (
  .seq (.seq (.draw 0 [⟨0, 0, 0, ⟨(some 23), .mv (.tmp 5), none⟩⟩,
    ⟨1, 0, 0, ⟨(some 24), .mv (.tmp 0), none⟩⟩,
    ⟨2, 0, 2, ⟨(some 25), .nilc (.tmp 24), none⟩⟩,
    ⟨3, 0, 6, ⟨(some 26), .fldA 0 (.tmp 25), none⟩⟩,
    ⟨4, 0, 14, ⟨(some 27), .load none (.tmp 26), none⟩⟩,
    ⟨5, 0, 30, ⟨(some 28), .nilc (.tmp 27), none⟩⟩,
    ⟨6, 0, 62, ⟨(some 29), .fldA 1 (.tmp 28), none⟩⟩,
    ⟨7, 0, 126, ⟨(some 30), .load none (.tmp 29), none⟩⟩,
    ⟨8, 0, 254, ⟨(some 31), .ln (.tmp 30), none⟩⟩,
    ⟨9, 0, 0, ⟨(some 32), .mv (.tmp 0), none⟩⟩,
    ⟨10, 0, 512, ⟨(some 33), .nilc (.tmp 32), none⟩⟩,
    ⟨11, 0, 1536, ⟨(some 34), .fldA 1 (.tmp 33), none⟩⟩,
    ⟨12, 0, 3584, ⟨(some 35), .load none (.tmp 34), none⟩⟩,
    ⟨13, 0, 8190, ⟨(some 36), .bin .sub (.tmp 31) (.tmp 35), none⟩⟩,
    ⟨14, 0, 16383, ⟨(some 37), .bin .gtr (.tmp 23) (.tmp 36), none⟩⟩]) (
  .cond (.tmp 37) (
    .seq (.region 0 [⟨(some 4), .mv (.const (.int .i64 82)), none⟩]) (
    .ret)) (
    .skip))) (
  .seq (.region 0 [⟨(some 6), .mv (.const (.int .u8 1)), none⟩]) (
  .seq (.seq (.region 0 [⟨(some 38), .mv (.tmp 5), none⟩,
    ⟨(some 39), .mv (.const (.int .i64 0)), none⟩]) (
  .block 0 (
    .loop (
      .seq (.region 0 [⟨(some 40), .bin .lss (.tmp 39) (.tmp 38), none⟩]) (
      .seq (.cond (.tmp 40) (
        .skip) (
        .exit 0)) (
      .seq (.block 1 (
        .seq (.region 0 [⟨(some 41), .mv (.tmp 39), none⟩,
          ⟨(some 7), .mv (.tmp 41), none⟩]) (
        .seq (.region 1 [⟨(some 42), .mv (.tmp 6), none⟩,
          ⟨(some 43), .mv (.tmp 1), none⟩,
          ⟨(some 44), .mv (.tmp 7), none⟩,
          ⟨(some 45), .bin .mul (.tmp 44) (.const (.int .i64 59)), none⟩,
          ⟨(some 46), .sslc (.tmp 43) (some (.tmp 45)) none, none⟩,
          ⟨(some 47), .call (.func 50) [(.tmp 42), (.tmp 46)], none⟩,
          ⟨(some 8), .alloc 75 (reps 64 (.int .u8 0)), none⟩,
          ⟨none, .store 64 (.tmp 8) (.tmp 47), none⟩]) (
        .seq (.seq (.draw 0 [⟨0, 0, 0, ⟨(some 48), .mv (.tmp 0), none⟩⟩,
          ⟨1, 0, 1, ⟨(some 49), .nilc (.tmp 48), none⟩⟩,
          ⟨2, 0, 3, ⟨(some 50), .fldA 0 (.tmp 49), none⟩⟩,
          ⟨3, 0, 7, ⟨(some 51), .load none (.tmp 50), none⟩⟩,
          ⟨4, 0, 0, ⟨(some 52), .mv (.tmp 0), none⟩⟩,
          ⟨5, 0, 16, ⟨(some 53), .nilc (.tmp 52), none⟩⟩,
          ⟨6, 0, 48, ⟨(some 54), .fldA 1 (.tmp 53), none⟩⟩,
          ⟨7, 0, 112, ⟨(some 55), .load none (.tmp 54), none⟩⟩,
          ⟨8, 0, 0, ⟨(some 56), .mv (.tmp 7), none⟩⟩,
          ⟨9, 0, 496, ⟨(some 57), .bin .add (.tmp 55) (.tmp 56), none⟩⟩,
          ⟨10, 0, 0, ⟨(some 58), .aslc 64 1 (.tmp 8) none none none, none⟩⟩,
          ⟨11, 0, 2047, ⟨(some 59), .call (.func 10) [(.tmp 51), (.tmp 57), (.tmp 58)], none⟩⟩,
          ⟨12, 0, 4095, ⟨(some 9), .mv (.tmp 59), none⟩⟩]) (
        .seq (.region 0 [⟨(some 60), .mv (.tmp 9), none⟩,
          ⟨(some 61), .bin .neq (.tmp 60) (.const (.int .i64 0)), none⟩]) (
        .cond (.tmp 61) (
          .seq (.region 0 [⟨(some 62), .mv (.tmp 9), none⟩,
            ⟨(some 4), .mv (.tmp 62), none⟩]) (
          .ret)) (
          .skip)))) (
        .region 0 [⟨(some 6), .mv (.const (.int .u8 2)), none⟩]))))) (
      .region 0 [⟨(some 63), .bin .add (.tmp 39) (.const (.int .i64 1)), none⟩,
        ⟨(some 39), .mv (.tmp 63), none⟩]))))))) (
  .seq (.region 0 [⟨(some 64), .mv (.tmp 0), none⟩,
    ⟨(some 65), .nilc (.tmp 64), none⟩,
    ⟨(some 66), .fldA 1 (.tmp 65), none⟩,
    ⟨(some 67), .load none (.tmp 66), none⟩,
    ⟨(some 68), .mv (.tmp 5), none⟩,
    ⟨(some 69), .bin .add (.tmp 67) (.tmp 68), none⟩,
    ⟨(some 70), .nilc (.tmp 64), none⟩,
    ⟨(some 71), .fldA 1 (.tmp 70), none⟩,
    ⟨none, .store 1 (.tmp 71) (.tmp 69), none⟩]) (
  .seq (.region 0 [⟨(some 72), .mv (.tmp 0), none⟩,
    ⟨(some 73), .nilc (.tmp 72), none⟩,
    ⟨(some 74), .fldA 2 (.tmp 73), none⟩,
    ⟨(some 75), .load none (.tmp 74), none⟩,
    ⟨(some 76), .bin .add (.tmp 75) (.const (.int .i64 1)), none⟩,
    ⟨(some 77), .nilc (.tmp 72), none⟩,
    ⟨(some 78), .fldA 2 (.tmp 77), none⟩,
    ⟨none, .store 1 (.tmp 78) (.tmp 76), none⟩]) (
  .seq (.region 0 [⟨(some 4), .mv (.const (.int .i64 0)), none⟩]) (
  .ret)))))))))⟩

/-- (*sennet/sennetref08.Journal).May -/
def f42 : IFn := ⟨83, [.tmp 6],
  .seq (.region 0 [⟨(some 6), .mv (.const (.bool false)), none⟩]) (
  .seq (.seq (.region 0 [⟨(some 8), .mv (.tmp 2), none⟩,
    ⟨(some 9), .un .not (.tmp 8), none⟩]) (
  .cond (.tmp 9) (
    .seq (.region 0 [⟨(some 10), .mv (.tmp 1), none⟩,
      ⟨(some 11), .mv (.tmp 0), none⟩,
      ⟨(some 12), .nilc (.tmp 11), none⟩,
      ⟨(some 13), .fldA 0 (.tmp 12), none⟩,
      ⟨(some 14), .load none (.tmp 13), none⟩,
      ⟨(some 15), .call (.func 22) [(.tmp 10), (.tmp 14)], none⟩,
      ⟨(some 6), .mv (.tmp 15), none⟩]) (
    .ret)) (
    .skip))) (
  .seq (.seq (.draw 0 [⟨0, 0, 0, ⟨(some 16), .mv (.tmp 1), none⟩⟩,
    ⟨1, 0, 1, ⟨(some 17), .ln (.tmp 16), none⟩⟩,
    ⟨2, 0, 0, ⟨(some 18), .mv (.tmp 0), none⟩⟩,
    ⟨3, 0, 4, ⟨(some 19), .nilc (.tmp 18), none⟩⟩,
    ⟨4, 0, 12, ⟨(some 20), .fldA 1 (.tmp 19), none⟩⟩,
    ⟨5, 0, 28, ⟨(some 21), .load none (.tmp 20), none⟩⟩,
    ⟨6, 0, 63, ⟨(some 22), .bin .lss (.tmp 17) (.tmp 21), none⟩⟩,
    ⟨7, 0, 127, ⟨(some 23), .mv (.tmp 22), none⟩⟩,
    ⟨8, 0, 255, ⟨(some 24), .mv (.tmp 1), (some (23, false))⟩⟩,
    ⟨9, 0, 511, ⟨(some 25), .ln (.tmp 24), (some (23, false))⟩⟩,
    ⟨10, 0, 255, ⟨(some 26), .mv (.tmp 0), (some (23, false))⟩⟩,
    ⟨11, 0, 1279, ⟨(some 27), .nilc (.tmp 26), (some (23, false))⟩⟩,
    ⟨12, 0, 3327, ⟨(some 28), .fldA 0 (.tmp 27), (some (23, false))⟩⟩,
    ⟨13, 0, 7423, ⟨(some 29), .load none (.tmp 28), (some (23, false))⟩⟩,
    ⟨14, 0, 15615, ⟨(some 30), .ln (.tmp 29), (some (23, false))⟩⟩,
    ⟨15, 0, 31999, ⟨(some 31), .bin .add (.tmp 30) (.const (.int .i64 1)), (some (23, false))⟩⟩,
    ⟨16, 0, 65535, ⟨(some 32), .bin .gtr (.tmp 25) (.tmp 31), (some (23, false))⟩⟩,
    ⟨17, 0, 131071, ⟨(some 33), .pick (.tmp 23) (.const (.bool true)) (.tmp 32), none⟩⟩,
    ⟨18, 0, 262143, ⟨(some 34), .mv (.tmp 33), none⟩⟩,
    ⟨19, 0, 524287, ⟨(some 35), .mv (.tmp 1), (some (34, false))⟩⟩,
    ⟨20, 0, 1048575, ⟨(some 36), .ln (.tmp 35), (some (34, false))⟩⟩,
    ⟨21, 0, 524287, ⟨(some 37), .mv (.tmp 0), (some (34, false))⟩⟩,
    ⟨22, 0, 2621439, ⟨(some 38), .nilc (.tmp 37), (some (34, false))⟩⟩,
    ⟨23, 0, 6815743, ⟨(some 39), .fldA 0 (.tmp 38), (some (34, false))⟩⟩,
    ⟨24, 0, 15204351, ⟨(some 40), .load none (.tmp 39), (some (34, false))⟩⟩,
    ⟨25, 0, 31981567, ⟨(some 41), .ln (.tmp 40), (some (34, false))⟩⟩,
    ⟨26, 0, 65535999, ⟨(some 42), .bin .add (.tmp 41) (.const (.int .i64 1)), (some (34, false))⟩⟩,
    ⟨27, 0, 134217727, ⟨(some 43), .bin .eql (.tmp 36) (.tmp 42), (some (34, false))⟩⟩,
    ⟨28, 0, 268435455, ⟨(some 44), .mv (.tmp 43), (some (34, false))⟩⟩,
    ⟨29, 0, 536870911, ⟨(some 45), .mv (.tmp 0), (some (44, true))⟩⟩,
    ⟨30, 0, 1073741823, ⟨(some 46), .nilc (.tmp 45), (some (44, true))⟩⟩,
    ⟨31, 0, 2147483647, ⟨(some 47), .fldA 2 (.tmp 46), (some (44, true))⟩⟩,
    ⟨32, 0, 4294967295, ⟨(some 48), .load none (.tmp 47), (some (44, true))⟩⟩,
    ⟨33, 0, 8589934591, ⟨(some 49), .un .not (.tmp 48), (some (44, true))⟩⟩,
    ⟨34, 0, 17179869183, ⟨(some 50), .mv (.tmp 49), (some (44, true))⟩⟩,
    ⟨35, 0, 34359738367, ⟨(some 51), .mv (.tmp 1), (some (50, false))⟩⟩,
    ⟨36, 0, 34359738367, ⟨(some 52), .mv (.tmp 1), (some (50, false))⟩⟩,
    ⟨37, 0, 103079215103, ⟨(some 53), .ln (.tmp 52), (some (50, false))⟩⟩,
    ⟨38, 0, 240518168575, ⟨(some 54), .bin .sub (.tmp 53) (.const (.int .i64 1)), (some (50, false))⟩⟩,
    ⟨39, 0, 549755813887, ⟨(some 55), .idxA none 1 (.tmp 51) (.tmp 54), (some (50, false))⟩⟩,
    ⟨40, 0, 1099511627775, ⟨(some 56), .load none (.tmp 55), (some (50, false))⟩⟩,
    ⟨41, 0, 34359738367, ⟨(some 57), .mv (.tmp 0), (some (50, false))⟩⟩,
    ⟨42, 0, 2233382993919, ⟨(some 58), .nilc (.tmp 57), (some (50, false))⟩⟩,
    ⟨43, 0, 6631429505023, ⟨(some 59), .fldA 3 (.tmp 58), (some (50, false))⟩⟩,
    ⟨44, 0, 15427522527231, ⟨(some 60), .load none (.tmp 59), (some (50, false))⟩⟩,
    ⟨45, 0, 35184372088831, ⟨(some 61), .bin .neq (.tmp 56) (.tmp 60), (some (50, false))⟩⟩,
    ⟨46, 0, 70368744177663, ⟨(some 62), .pick (.tmp 50) (.const (.bool true)) (.tmp 61), (some (44, true))⟩⟩,
    ⟨47, 0, 140737488355327, ⟨(some 63), .pick (.tmp 44) (.tmp 62) (.const (.bool false)), (some (34, false))⟩⟩,
    ⟨48, 0, 281474976710655, ⟨(some 64), .pick (.tmp 34) (.const (.bool true)) (.tmp 63), none⟩⟩]) (
  .cond (.tmp 64) (
    .seq (.region 0 [⟨(some 6), .mv (.const (.bool false)), none⟩]) (
    .ret)) (
    .skip))) (
  .seq (.region 0 [⟨(some 65), .mv (.tmp 1), none⟩,
    ⟨(some 66), .ln (.tmp 65), none⟩,
    ⟨(some 67), .mv (.tmp 0), none⟩,
    ⟨(some 68), .nilc (.tmp 67), none⟩,
    ⟨(some 69), .fldA 0 (.tmp 68), none⟩,
    ⟨(some 70), .load none (.tmp 69), none⟩,
    ⟨(some 71), .ln (.tmp 70), none⟩,
    ⟨(some 72), .minb [(.tmp 66), (.tmp 71)], none⟩,
    ⟨(some 7), .mv (.tmp 72), none⟩]) (
  .seq (.draw 0 [⟨0, 0, 0, ⟨(some 73), .mv (.tmp 1), none⟩⟩,
    ⟨1, 0, 0, ⟨(some 74), .mv (.tmp 7), none⟩⟩,
    ⟨2, 0, 3, ⟨(some 75), .slc 9 1 (.tmp 73) none (some (.tmp 74)) none, none⟩⟩,
    ⟨3, 0, 0, ⟨(some 76), .mv (.tmp 0), none⟩⟩,
    ⟨4, 0, 8, ⟨(some 77), .nilc (.tmp 76), none⟩⟩,
    ⟨5, 0, 24, ⟨(some 78), .fldA 0 (.tmp 77), none⟩⟩,
    ⟨6, 0, 56, ⟨(some 79), .load none (.tmp 78), none⟩⟩,
    ⟨7, 0, 0, ⟨(some 80), .mv (.tmp 7), none⟩⟩,
    ⟨8, 0, 248, ⟨(some 81), .slc 9 1 (.tmp 79) none (some (.tmp 80)) none, none⟩⟩,
    ⟨9, 0, 511, ⟨(some 82), .call (.func 22) [(.tmp 75), (.tmp 81)], none⟩⟩,
    ⟨10, 0, 1023, ⟨(some 6), .mv (.tmp 82), none⟩⟩]) (
  .ret)))))⟩

/-- (*sennet/sennetref08.Journal).Opened -/
def f43 : IFn := ⟨20, [],
  .seq (.region 0 [⟨(some 4), .mv (.tmp 0), none⟩,
    ⟨(some 5), .mv (.tmp 1), none⟩,
    ⟨(some 6), .call (.func 51) [(.tmp 5)], none⟩,
    ⟨(some 7), .nilc (.tmp 4), none⟩,
    ⟨(some 8), .fldA 0 (.tmp 7), none⟩,
    ⟨none, .store 1 (.tmp 8) (.tmp 6), none⟩]) (
  .seq (.region 0 [⟨(some 9), .mv (.tmp 0), none⟩,
    ⟨(some 10), .mv (.tmp 1), none⟩,
    ⟨(some 11), .ln (.tmp 10), none⟩,
    ⟨(some 12), .nilc (.tmp 9), none⟩,
    ⟨(some 13), .fldA 1 (.tmp 12), none⟩,
    ⟨none, .store 1 (.tmp 13) (.tmp 11), none⟩]) (
  .seq (.region 0 [⟨(some 14), .mv (.tmp 0), none⟩,
    ⟨(some 15), .nilc (.tmp 14), none⟩,
    ⟨(some 16), .fldA 2 (.tmp 15), none⟩,
    ⟨none, .store 1 (.tmp 16) (.const (.bool false)), none⟩]) (
  .region 0 [⟨(some 17), .mv (.tmp 0), none⟩,
    ⟨(some 18), .nilc (.tmp 17), none⟩,
    ⟨(some 19), .fldA 3 (.tmp 18), none⟩,
    ⟨none, .store 1 (.tmp 19) (.const (.string ⟨#[]⟩)), none⟩])))⟩

/-- (*sennet/sennetref08.Journal).Append -/
def f44 : IFn := ⟨34, [],
  .seq (.seq (.region 0 [⟨(some 6), .mv (.tmp 2), none⟩,
    ⟨(some 7), .bin .eql (.tmp 6) (.const (.int .i64 0)), none⟩]) (
  .cond (.tmp 7) (
    .region 2 [⟨(some 8), .mv (.tmp 0), none⟩,
      ⟨(some 9), .mv (.tmp 0), none⟩,
      ⟨(some 10), .nilc (.tmp 9), none⟩,
      ⟨(some 11), .fldA 0 (.tmp 10), none⟩,
      ⟨(some 12), .load none (.tmp 11), none⟩,
      ⟨(some 13), .mv (.tmp 1), none⟩,
      ⟨(some 14), .bslice 9 1 [(.string ⟨#[]⟩)] 1 [(0, 1, (.tmp 13))], none⟩,
      ⟨(some 15), .app 9 1 16 [(.string ⟨#[]⟩)] (.tmp 12) (.tmp 14), none⟩,
      ⟨(some 16), .nilc (.tmp 8), none⟩,
      ⟨(some 17), .fldA 0 (.tmp 16), none⟩,
      ⟨none, .store 1 (.tmp 17) (.tmp 15), none⟩]) (
    .skip))) (
  .seq (.region 0 [⟨(some 18), .mv (.tmp 2), none⟩,
    ⟨(some 19), .bin .eql (.tmp 18) (.const (.int .i64 80)), none⟩,
    ⟨(some 20), .mv (.tmp 19), none⟩,
    ⟨(some 21), .mv (.tmp 0), (some (20, true))⟩,
    ⟨(some 22), .nilc (.tmp 21), (some (20, true))⟩,
    ⟨(some 23), .fldA 2 (.tmp 22), (some (20, true))⟩,
    ⟨(some 24), .load none (.tmp 23), (some (20, true))⟩,
    ⟨(some 25), .un .not (.tmp 24), (some (20, true))⟩,
    ⟨(some 26), .pick (.tmp 20) (.tmp 25) (.const (.bool false)), none⟩]) (
  .cond (.tmp 26) (
    .seq (.region 0 [⟨(some 27), .mv (.tmp 0), none⟩,
      ⟨(some 28), .nilc (.tmp 27), none⟩,
      ⟨(some 29), .fldA 2 (.tmp 28), none⟩,
      ⟨none, .store 1 (.tmp 29) (.const (.bool true)), none⟩]) (
    .region 0 [⟨(some 30), .mv (.tmp 0), none⟩,
      ⟨(some 31), .mv (.tmp 1), none⟩,
      ⟨(some 32), .nilc (.tmp 30), none⟩,
      ⟨(some 33), .fldA 3 (.tmp 32), none⟩,
      ⟨none, .store 1 (.tmp 33) (.tmp 31), none⟩])) (
    .skip)))⟩

/-- sennet/sennetref08.Cost -/
def f45 : IFn := ⟨6, [.tmp 2],
  .seq (.region 0 [⟨(some 2), .mv (.const (.int .i64 0)), none⟩]) (
  .seq (.region 0 [⟨(some 3), .mv (.tmp 0), none⟩,
    ⟨(some 4), .bin .quo (.tmp 3) (.const (.int .i64 32)), none⟩,
    ⟨(some 5), .bin .add (.const (.int .i64 1)) (.tmp 4), none⟩,
    ⟨(some 2), .mv (.tmp 5), none⟩]) (
  .ret))⟩

/-- sennet/sennetref08.padded -/
def f46 : IFn := ⟨9, [.tmp 2],
  .seq (.region 0 [⟨(some 2), .mv (.const (.string ⟨#[]⟩)), none⟩]) (
  .seq (.block 0 (
    .loop (
      .seq (.seq (.region 0 [⟨(some 3), .mv (.tmp 0), none⟩,
        ⟨(some 4), .sln (.tmp 3), none⟩,
        ⟨(some 5), .bin .lss (.tmp 4) (.const (.int .i64 64)), none⟩]) (
      .cond (.tmp 5) (
        .skip) (
        .exit 0))) (
      .block 1 (
        .region 0 [⟨(some 6), .mv (.tmp 0), none⟩,
          ⟨(some 7), .bin .add (.tmp 6) (.const (.string ⟨#[0]⟩)), none⟩,
          ⟨(some 0), .mv (.tmp 7), none⟩]))))) (
  .seq (.region 0 [⟨(some 8), .mv (.tmp 0), none⟩,
    ⟨(some 2), .mv (.tmp 8), none⟩]) (
  .ret)))⟩

/-- (*sennet/sennetref08.Disk).call -/
def f47 : IFn := ⟨24, [.tmp 2],
  .seq (.region 0 [⟨(some 2), .mv (.const (.bool false)), none⟩]) (
  .seq (.seq (.region 0 [⟨(some 3), .mv (.tmp 0), none⟩,
    ⟨(some 4), .nilc (.tmp 3), none⟩,
    ⟨(some 5), .fldA 2 (.tmp 4), none⟩,
    ⟨(some 6), .load none (.tmp 5), none⟩,
    ⟨(some 7), .bin .eql (.tmp 6) (.const (.int .i64 0)), none⟩]) (
  .cond (.tmp 7) (
    .seq (.region 0 [⟨(some 8), .mv (.tmp 0), none⟩,
      ⟨(some 9), .nilc (.tmp 8), none⟩,
      ⟨(some 10), .fldA 3 (.tmp 9), none⟩,
      ⟨none, .store 1 (.tmp 10) (.const (.bool true)), none⟩]) (
    .seq (.region 0 [⟨(some 2), .mv (.const (.bool false)), none⟩]) (
    .ret))) (
    .skip))) (
  .seq (.seq (.region 0 [⟨(some 11), .mv (.tmp 0), none⟩,
    ⟨(some 12), .nilc (.tmp 11), none⟩,
    ⟨(some 13), .fldA 2 (.tmp 12), none⟩,
    ⟨(some 14), .load none (.tmp 13), none⟩,
    ⟨(some 15), .bin .gtr (.tmp 14) (.const (.int .i64 0)), none⟩]) (
  .cond (.tmp 15) (
    .region 0 [⟨(some 16), .mv (.tmp 0), none⟩,
      ⟨(some 17), .mv (.tmp 0), none⟩,
      ⟨(some 18), .nilc (.tmp 17), none⟩,
      ⟨(some 19), .fldA 2 (.tmp 18), none⟩,
      ⟨(some 20), .load none (.tmp 19), none⟩,
      ⟨(some 21), .bin .sub (.tmp 20) (.const (.int .i64 1)), none⟩,
      ⟨(some 22), .nilc (.tmp 16), none⟩,
      ⟨(some 23), .fldA 2 (.tmp 22), none⟩,
      ⟨none, .store 1 (.tmp 23) (.tmp 21), none⟩]) (
    .skip))) (
  .seq (.region 0 [⟨(some 2), .mv (.const (.bool true)), none⟩]) (
  .ret))))⟩

/-- (*sennet/post.Journal).whole -/
def f48 : IFn := ⟨40, [.cell 6 (some 64), .tmp 7],
  .seq (.region 1 [⟨(some 6), .alloc 75 (reps 64 (.int .u8 0)), none⟩,
    ⟨(some 7), .mv (.const (.bool false)), none⟩]) (
  .seq (.seq (.region 0 [⟨(some 9), .mv (.tmp 1), none⟩,
    ⟨(some 10), .mv (.tmp 0), none⟩,
    ⟨(some 11), .nilc (.tmp 10), none⟩,
    ⟨(some 12), .fldA 0 (.tmp 11), none⟩,
    ⟨(some 13), .load none (.tmp 12), none⟩,
    ⟨(some 14), .nilc (.tmp 13), none⟩,
    ⟨(some 15), .fldA 1 (.tmp 14), none⟩,
    ⟨(some 16), .load none (.tmp 15), none⟩,
    ⟨(some 17), .ln (.tmp 16), none⟩,
    ⟨(some 18), .bin .geq (.tmp 9) (.tmp 17), none⟩]) (
  .cond (.tmp 18) (
    .seq (.region 0 [⟨(some 19), .build (reps 64 (.int .u8 0)) [], none⟩,
      ⟨none, .store 64 (.tmp 6) (.tmp 19), none⟩,
      ⟨(some 7), .mv (.const (.bool false)), none⟩]) (
    .ret)) (
    .skip))) (
  .seq (.region 1 [⟨(some 20), .mv (.tmp 0), none⟩,
    ⟨(some 21), .nilc (.tmp 20), none⟩,
    ⟨(some 22), .fldA 0 (.tmp 21), none⟩,
    ⟨(some 23), .load none (.tmp 22), none⟩,
    ⟨(some 24), .nilc (.tmp 23), none⟩,
    ⟨(some 25), .fldA 1 (.tmp 24), none⟩,
    ⟨(some 26), .load none (.tmp 25), none⟩,
    ⟨(some 27), .mv (.tmp 1), none⟩,
    ⟨(some 28), .idxA none 64 (.tmp 26) (.tmp 27), none⟩,
    ⟨(some 29), .load (some 64) (.tmp 28), none⟩,
    ⟨(some 8), .alloc 75 (reps 64 (.int .u8 0)), none⟩,
    ⟨none, .store 64 (.tmp 8) (.tmp 29), none⟩]) (
  .seq (.draw 0 [⟨0, 0, 0, ⟨(some 30), .load (some 64) (.tmp 8), none⟩⟩,
    ⟨1, 0, 0, ⟨(some 31), .idxA (some 64) 1 (.tmp 8) (.const (.int .i64 0)), none⟩⟩,
    ⟨2, 0, 2, ⟨(some 32), .load none (.tmp 31), none⟩⟩,
    ⟨3, 0, 0, ⟨(some 33), .mv (.tmp 2), none⟩⟩,
    ⟨4, 0, 14, ⟨(some 34), .bin .eql (.tmp 32) (.tmp 33), none⟩⟩,
    ⟨5, 0, 30, ⟨(some 35), .mv (.tmp 34), none⟩⟩,
    ⟨6, 0, 62, ⟨(some 36), .idxA (some 64) 1 (.tmp 8) (.const (.int .i64 63)), (some (35, true))⟩⟩,
    ⟨7, 0, 126, ⟨(some 37), .load none (.tmp 36), (some (35, true))⟩⟩,
    ⟨8, 0, 254, ⟨(some 38), .bin .eql (.tmp 37) (.const (.int .u8 1)), (some (35, true))⟩⟩,
    ⟨9, 0, 510, ⟨(some 39), .pick (.tmp 35) (.tmp 38) (.const (.bool false)), none⟩⟩,
    ⟨10, 0, 63, ⟨none, .store 64 (.tmp 6) (.tmp 30), none⟩⟩,
    ⟨11, 0, 2047, ⟨(some 7), .mv (.tmp 39), none⟩⟩]) (
  .ret))))⟩

/-- (sennet/post.sector).size -/
def f49 : IFn := ⟨16, [.tmp 2],
  .seq (.region 1 [⟨(some 1), .box 75 (.tmp 0), none⟩,
    ⟨(some 2), .mv (.const (.int .i64 0)), none⟩]) (
  .seq (.region 0 [⟨(some 3), .idxA (some 64) 1 (.tmp 1) (.const (.int .i64 1)), none⟩,
    ⟨(some 4), .load none (.tmp 3), none⟩,
    ⟨(some 5), .conv .i64 (.tmp 4), none⟩,
    ⟨(some 6), .idxA (some 64) 1 (.tmp 1) (.const (.int .i64 2)), none⟩,
    ⟨(some 7), .load none (.tmp 6), none⟩,
    ⟨(some 8), .conv .i64 (.tmp 7), none⟩,
    ⟨(some 9), .bin .shl (.tmp 8) (.const (.int .u64 8)), none⟩,
    ⟨(some 10), .bin .add (.tmp 5) (.tmp 9), none⟩,
    ⟨(some 11), .idxA (some 64) 1 (.tmp 1) (.const (.int .i64 3)), none⟩,
    ⟨(some 12), .load none (.tmp 11), none⟩,
    ⟨(some 13), .conv .i64 (.tmp 12), none⟩,
    ⟨(some 14), .bin .shl (.tmp 13) (.const (.int .u64 16)), none⟩,
    ⟨(some 15), .bin .add (.tmp 10) (.tmp 14), none⟩,
    ⟨(some 2), .mv (.tmp 15), none⟩]) (
  .ret))⟩

/-- sennet/post.part -/
def f50 : IFn := ⟨24, [.cell 4 (some 64)],
  .seq (.region 1 [⟨(some 4), .alloc 75 (reps 64 (.int .u8 0)), none⟩]) (
  .seq (.region 1 [⟨(some 6), .mv (.tmp 0), none⟩,
    ⟨(some 7), .mv (.tmp 1), none⟩,
    ⟨(some 8), .sln (.tmp 7), none⟩,
    ⟨(some 9), .conv .u8 (.tmp 8), none⟩,
    ⟨(some 10), .mv (.tmp 1), none⟩,
    ⟨(some 11), .sln (.tmp 10), none⟩,
    ⟨(some 12), .bin .shr (.tmp 11) (.const (.int .u64 8)), none⟩,
    ⟨(some 13), .conv .u8 (.tmp 12), none⟩,
    ⟨(some 14), .mv (.tmp 1), none⟩,
    ⟨(some 15), .sln (.tmp 14), none⟩,
    ⟨(some 16), .bin .shr (.tmp 15) (.const (.int .u64 16)), none⟩,
    ⟨(some 17), .conv .u8 (.tmp 16), none⟩,
    ⟨(some 18), .build (reps 64 (.int .u8 0)) [(0, 1, (.tmp 6)), (1, 1, (.tmp 9)), (2, 1, (.tmp 13)), (3, 1, (.tmp 17))], none⟩,
    ⟨(some 5), .alloc 75 (reps 64 (.int .u8 0)), none⟩,
    ⟨none, .store 64 (.tmp 5) (.tmp 18), none⟩]) (
  .seq (.region 0 [⟨(some 19), .aslc 64 1 (.tmp 5) (some (.const (.int .i64 4))) (some (.const (.int .i64 63))) none, none⟩,
    ⟨(some 20), .mv (.tmp 1), none⟩,
    ⟨(some 21), .cpy 1 (.tmp 19) (.tmp 20), none⟩]) (
  .seq (.region 0 [⟨(some 22), .idxA (some 64) 1 (.tmp 5) (.const (.int .i64 63)), none⟩,
    ⟨none, .store 1 (.tmp 22) (.const (.int .u8 1)), none⟩]) (
  .seq (.region 0 [⟨(some 23), .load (some 64) (.tmp 5), none⟩,
    ⟨none, .store 64 (.tmp 4) (.tmp 23), none⟩]) (
  .ret)))))⟩

/-- sennet/sennetref08.Texts -/
def f51 : IFn := ⟨19, [.tmp 2],
  .seq (.region 0 [⟨(some 2), .mv (.const (.slice none 0 0)), none⟩]) (
  .seq (.region 0 [⟨(some 3), .mv (.const (.slice none 0 0)), none⟩]) (
  .seq (.seq (.region 0 [⟨(some 4), .mv (.const (.int .i64 0)), none⟩]) (
  .block 0 (
    .loop (
      .seq (.seq (.region 0 [⟨(some 5), .mv (.tmp 4), none⟩,
        ⟨(some 6), .mv (.tmp 0), none⟩,
        ⟨(some 7), .ln (.tmp 6), none⟩,
        ⟨(some 8), .bin .lss (.tmp 5) (.tmp 7), none⟩]) (
      .cond (.tmp 8) (
        .skip) (
        .exit 0))) (
      .seq (.block 1 (
        .region 2 [⟨(some 11), .mv (.tmp 3), none⟩,
          ⟨(some 12), .mv (.tmp 0), none⟩,
          ⟨(some 13), .mv (.tmp 4), none⟩,
          ⟨(some 14), .idxA none 1 (.tmp 12) (.tmp 13), none⟩,
          ⟨(some 15), .load none (.tmp 14), none⟩,
          ⟨(some 16), .bslice 9 1 [(.string ⟨#[]⟩)] 1 [(0, 1, (.tmp 15))], none⟩,
          ⟨(some 17), .app 9 1 16 [(.string ⟨#[]⟩)] (.tmp 11) (.tmp 16), none⟩,
          ⟨(some 3), .mv (.tmp 17), none⟩])) (
      .region 0 [⟨(some 9), .mv (.tmp 4), none⟩,
        ⟨(some 10), .bin .add (.tmp 9) (.const (.int .i64 1)), none⟩,
        ⟨(some 4), .mv (.tmp 10), none⟩])))))) (
  .seq (.region 0 [⟨(some 18), .mv (.tmp 3), none⟩,
    ⟨(some 2), .mv (.tmp 18), none⟩]) (
  .ret))))⟩


def tab : Nat → Option IFn
  | 3 => some f3
  | 4 => some f4
  | 5 => some f5
  | 6 => some f6
  | 7 => some f7
  | 8 => some f8
  | 9 => some f9
  | 10 => some f10
  | 11 => some f11
  | 12 => some f12
  | 13 => some f13
  | 14 => some f14
  | 15 => some f15
  | 16 => some f16
  | 17 => some f17
  | 18 => some f18
  | 19 => some f19
  | 20 => some f20
  | 21 => some f21
  | 22 => some f22
  | 23 => some f23
  | 24 => some f24
  | 25 => some f25
  | 26 => some f26
  | 27 => some f27
  | 28 => some f28
  | 29 => some f29
  | 30 => some f30
  | 31 => some f31
  | 32 => some f32
  | 33 => some f33
  | 34 => some f34
  | 35 => some f35
  | 36 => some f36
  | 37 => some f37
  | 38 => some f38
  | 39 => some f39
  | 40 => some f40
  | 41 => some f41
  | 42 => some f42
  | 43 => some f43
  | 44 => some f44
  | 45 => some f45
  | 46 => some f46
  | 47 => some f47
  | 48 => some f48
  | 49 => some f49
  | 50 => some f50
  | 51 => some f51
  | _ => none
end Go.Gx.Y
