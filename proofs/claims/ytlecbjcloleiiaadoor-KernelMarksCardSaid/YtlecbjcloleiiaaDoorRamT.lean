import Derived.Test.YtlecbjcloleiiaaDoorRamA
/-! The functions in the machine of RamA. By program (gen.py). -/
namespace Go.Proofs.YtlecbjcloleiiaaDoor.Ram
open Go

/- patois/patoislaw4.KernelFiles -/
def c3l0 : ACode :=
  .keep [0, 1, 6, 8, 9] (.seq (.seq (.reg [⟨(some 48), .mov (.t 9), none⟩,
      ⟨(some 49), .mov (.t 0), none⟩,
      ⟨(some 50), .len false (.t 49), none⟩,
      ⟨(some 51), .bin .lss (.t 48) (.t 50), none⟩])
  (.keep [0, 1, 6, 8, 9, 51] (.cond (.t 51)
    (.skip)
    (.exit 0))))
  (.keep [0, 1, 6, 8, 9] (.seq (.block 1 (.seq (.seq (.reg [⟨(some 54), .mov (.t 0), none⟩,
      ⟨(some 55), .mov (.t 9), none⟩,
      ⟨(some 56), .indexA 6 (.t 54) (.t 55), none⟩,
      ⟨(some 57), .fieldA 4 (.t 56), none⟩,
      ⟨(some 58), .load 1 false (.t 57), none⟩,
      ⟨(some 59), .len true (.t 58), none⟩,
      ⟨(some 60), .bin .gtr (.t 59) (.c (.int .i64 300)), none⟩])
    (.keep [0, 1, 6, 8, 9, 60] (.cond (.t 60)
      (.seq (.reg [⟨(some 4), .mov (.c (.bool true)), none⟩])
      (.ret))
      (.skip))))
    (.keep [0, 1, 6, 8, 9] (.seq (.seq (.reg [⟨(some 61), .mov (.t 0), none⟩,
      ⟨(some 62), .mov (.t 9), none⟩,
      ⟨(some 63), .indexA 6 (.t 61) (.t 62), none⟩,
      ⟨(some 64), .fieldA 0 (.t 63), none⟩,
      ⟨(some 65), .load 1 false (.t 64), none⟩,
      ⟨(some 66), .bin .eql (.t 65) (.c (.int .i64 2)), none⟩])
    (.keep [0, 1, 6, 8, 9, 66] (.cond (.t 66)
      (.seq (.reg [⟨(some 68), .mov (.t 6), none⟩,
      ⟨(some 69), .mov (.t 0), none⟩,
      ⟨(some 70), .mov (.t 9), none⟩,
      ⟨(some 71), .indexA 6 (.t 69) (.t 70), none⟩,
      ⟨(some 72), .fieldA 1 (.t 71), none⟩,
      ⟨(some 73), .load 1 false (.t 72), none⟩,
      ⟨(some 74), .bin .and (.t 73) (.c (.int .i64 1)), none⟩,
      ⟨(some 75), .bin .add (.t 74) (.c (.int .i64 2)), none⟩,
      ⟨(some 76), .callF 11 [(.t 68), (.c (.str [97])), (.t 75)], none⟩,
      ⟨(some 67), .mov (.t 76), none⟩,
      ⟨(some 77), .extract (.t 67) 0, none⟩,
      ⟨(some 78), .extract (.t 67) 1, none⟩,
      ⟨(some 10), .mov (.t 77), none⟩,
      ⟨(some 11), .mov (.t 78), none⟩])
      (.keep [0, 1, 6, 8, 9, 11] (.seq (.seq (.reg [⟨(some 79), .mov (.t 11), none⟩,
      ⟨(some 80), .not (.t 79), none⟩])
      (.keep [0, 1, 6, 8, 9, 80] (.cond (.t 80)
        (.seq (.reg [⟨(some 4), .mov (.c (.bool false)), none⟩])
        (.ret))
        (.skip))))
      (.keep [0, 1, 6, 8, 9] (.seq (.seq (.reg [⟨(some 81), .mov (.t 0), none⟩,
      ⟨(some 82), .mov (.t 9), none⟩,
      ⟨(some 83), .indexA 6 (.t 81) (.t 82), none⟩,
      ⟨(some 84), .fieldA 1 (.t 83), none⟩,
      ⟨(some 85), .load 1 false (.t 84), none⟩,
      ⟨(some 86), .bin .and (.t 85) (.c (.int .i64 1)), none⟩,
      ⟨(some 87), .bin .eql (.t 86) (.c (.int .i64 0)), none⟩])
      (.keep [0, 1, 6, 8, 9, 87] (.cond (.t 87)
        (.reg [⟨(some 8), .mov (.c (.str [])), none⟩])
        (.skip))))
      (.exit 1))))))
      (.skip))))
    (.keep [0, 1, 6, 8, 9] (.seq (.reg [⟨(some 88), .mov (.t 6), none⟩,
      ⟨(some 89), .mov (.t 0), none⟩,
      ⟨(some 90), .mov (.t 9), none⟩,
      ⟨(some 91), .indexA 6 (.t 89) (.t 90), none⟩,
      ⟨(some 92), .fieldA 4 (.t 91), none⟩,
      ⟨(some 93), .load 1 false (.t 92), none⟩,
      ⟨(some 94), .callF 12 [(.t 88), (.c (.str [97])), (.t 93)], none⟩,
      ⟨(some 12), .mov (.t 94), none⟩])
    (.keep [0, 1, 6, 8, 9, 12] (.seq (.reg [⟨(some 95), .mov (.t 12), none⟩,
      ⟨(some 96), .eq false .ifc (.t 95) (.c (.nilI)), none⟩])
    (.keep [0, 1, 6, 8, 9, 96] (.cond (.t 96)
      (.reg [⟨(some 97), .mov (.t 8), none⟩,
      ⟨(some 98), .mov (.t 0), none⟩,
      ⟨(some 99), .mov (.t 9), none⟩,
      ⟨(some 100), .indexA 6 (.t 98) (.t 99), none⟩,
      ⟨(some 101), .fieldA 4 (.t 100), none⟩,
      ⟨(some 102), .load 1 false (.t 101), none⟩,
      ⟨(some 103), .bin .add (.t 97) (.t 102), none⟩,
      ⟨(some 8), .mov (.t 103), none⟩])
      (.skip)))))))))))
  (.keep [0, 1, 6, 8, 9] (.reg [⟨(some 52), .mov (.t 9), none⟩,
      ⟨(some 53), .bin .add (.t 52) (.c (.int .i64 1)), none⟩,
      ⟨(some 9), .mov (.t 53), none⟩])))))
def c3 : ACode :=
  .seq (.reg [⟨(some 4), .mov (.c (.bool false)), none⟩])
  (.keep [0, 1] (.seq (.reg [⟨(some 17), .callF 9 [], none⟩,
      ⟨(some 5), .mov (.t 17), none⟩])
  (.keep [0, 1, 5] (.seq (.seq (.reg [⟨(some 18), .mov (.t 0), none⟩,
      ⟨(some 19), .len false (.t 18), none⟩,
      ⟨(some 20), .bin .gtr (.t 19) (.c (.int .i64 40)), none⟩,
      ⟨(some 21), .mov (.t 20), none⟩,
      ⟨(some 22), .mov (.t 1), (some (21, false))⟩,
      ⟨(some 23), .len true (.t 22), (some (21, false))⟩,
      ⟨(some 24), .bin .gtr (.t 23) (.c (.int .i64 1000)), (some (21, false))⟩,
      ⟨(some 25), .pick (.t 21) (.c (.bool true)) (.t 24), none⟩,
      ⟨(some 26), .mov (.t 25), none⟩,
      ⟨(some 27), .mov (.t 5), (some (26, false))⟩,
      ⟨(some 28), .not (.t 27), (some (26, false))⟩,
      ⟨(some 29), .pick (.t 26) (.c (.bool true)) (.t 28), none⟩])
  (.keep [0, 1, 5, 29] (.cond (.t 29)
    (.seq (.reg [⟨(some 30), .mov (.t 5), none⟩,
      ⟨(some 4), .mov (.t 30), none⟩])
    (.ret))
    (.skip))))
  (.keep [0, 1] (.seq (.reg [⟨(some 32), .mov (.t 1), none⟩,
      ⟨(some 33), .build [.str [], .str []] [(0, 1, (.c (.str [97]))), (1, 1, (.t 32))], none⟩,
      ⟨(some 34), .mov (.t 1), none⟩,
      ⟨(some 35), .build [.str [], .str []] [(0, 1, (.c (.str [98]))), (1, 1, (.t 34))], none⟩,
      ⟨(some 36), .bslice 2 2 [.str [], .str [], .str [], .str []] [(0, 2, (.t 33)), (2, 2, (.t 35))], none⟩,
      ⟨(some 37), .build [.sl none 2 0 (some 0), .sl none 7 0 (some 0)] [(0, 1, (.t 36))], none⟩,
      ⟨(some 38), .callF 10 [(.t 37)], none⟩,
      ⟨(some 31), .mov (.t 38), none⟩,
      ⟨(some 39), .extract (.t 31) 0, none⟩,
      ⟨(some 40), .extract (.t 31) 1, none⟩,
      ⟨(some 6), .mov (.t 39), none⟩,
      ⟨(some 7), .mov (.t 40), none⟩])
  (.keep [0, 1, 6, 7] (.seq (.seq (.reg [⟨(some 41), .mov (.t 6), none⟩,
      ⟨(some 42), .eq false .ptr (.t 41) (.c (.ptr none)), none⟩,
      ⟨(some 43), .mov (.t 42), none⟩,
      ⟨(some 44), .mov (.t 7), (some (43, false))⟩,
      ⟨(some 45), .eq true .ifc (.t 44) (.c (.nilI)), (some (43, false))⟩,
      ⟨(some 46), .pick (.t 43) (.c (.bool true)) (.t 45), none⟩])
  (.keep [0, 1, 6, 46] (.cond (.t 46)
    (.seq (.reg [⟨(some 4), .mov (.c (.bool false)), none⟩])
    (.ret))
    (.skip))))
  (.keep [0, 1, 6] (.seq (.reg [⟨(some 47), .mov (.t 1), none⟩,
      ⟨(some 8), .mov (.t 47), none⟩])
  (.keep [0, 1, 6, 8] (.seq (.seq (.reg [⟨(some 9), .mov (.c (.int .i64 0)), none⟩])
  (.keep [0, 1, 6, 8, 9] (.block 0 (.loop c3l0))))
  (.keep [1, 6, 8] (.seq (.reg [⟨(some 105), .mov (.t 6), none⟩,
      ⟨(some 106), .callF 11 [(.t 105), (.c (.str [97])), (.c (.int .i64 1))], none⟩,
      ⟨(some 104), .mov (.t 106), none⟩,
      ⟨(some 107), .extract (.t 104) 0, none⟩,
      ⟨(some 108), .extract (.t 104) 1, none⟩,
      ⟨(some 13), .mov (.t 107), none⟩,
      ⟨(some 14), .mov (.t 108), none⟩])
  (.keep [1, 6, 8, 13, 14] (.seq (.reg [⟨(some 110), .mov (.t 6), none⟩,
      ⟨(some 111), .callF 11 [(.t 110), (.c (.str [98])), (.c (.int .i64 1))], none⟩,
      ⟨(some 109), .mov (.t 111), none⟩,
      ⟨(some 112), .extract (.t 109) 0, none⟩,
      ⟨(some 113), .extract (.t 109) 1, none⟩,
      ⟨(some 15), .mov (.t 112), none⟩,
      ⟨(some 16), .mov (.t 113), none⟩])
  (.keep [1, 6, 8, 13, 14, 15, 16] (.seq (.reg [⟨(some 114), .mov (.t 14), none⟩,
      ⟨(some 115), .mov (.t 114), none⟩,
      ⟨(some 116), .mov (.t 16), (some (115, true))⟩,
      ⟨(some 117), .pick (.t 115) (.t 116) (.c (.bool false)), none⟩,
      ⟨(some 118), .mov (.t 117), none⟩,
      ⟨(some 119), .mov (.t 13), (some (118, true))⟩,
      ⟨(some 120), .mov (.t 8), (some (118, true))⟩,
      ⟨(some 121), .bin .eql (.t 119) (.t 120), (some (118, true))⟩,
      ⟨(some 122), .pick (.t 118) (.t 121) (.c (.bool false)), none⟩,
      ⟨(some 123), .mov (.t 122), none⟩,
      ⟨(some 124), .mov (.t 15), (some (123, true))⟩,
      ⟨(some 125), .mov (.t 1), (some (123, true))⟩,
      ⟨(some 126), .bin .eql (.t 124) (.t 125), (some (123, true))⟩,
      ⟨(some 127), .pick (.t 123) (.t 126) (.c (.bool false)), none⟩,
      ⟨(some 128), .mov (.t 127), none⟩,
      ⟨(some 129), .mov (.t 6), (some (128, true))⟩,
      ⟨(some 130), .callF 13 [(.t 129)], (some (128, true))⟩,
      ⟨(some 131), .len false (.t 130), (some (128, true))⟩,
      ⟨(some 132), .bin .eql (.t 131) (.c (.int .i64 2)), (some (128, true))⟩,
      ⟨(some 133), .pick (.t 128) (.t 132) (.c (.bool false)), none⟩,
      ⟨(some 4), .mov (.t 133), none⟩])
  (.ret)))))))))))))))))))
def a3 : AFun := ⟨2, c3, [.tmp 4]⟩

/- patois/patoislaw4.KernelOwn -/
def c4l0 : ACode :=
  .keep [0, 1, 6] (.seq (.seq (.reg [⟨(some 43), .mov (.t 6), none⟩,
      ⟨(some 44), .mov (.t 1), none⟩,
      ⟨(some 45), .len false (.t 44), none⟩,
      ⟨(some 46), .bin .lss (.t 43) (.t 45), none⟩])
  (.keep [0, 1, 6, 46] (.cond (.t 46)
    (.skip)
    (.exit 0))))
  (.keep [0, 1, 6] (.seq (.block 1 (.seq (.reg [⟨(some 49), .mov (.t 1), none⟩,
      ⟨(some 50), .mov (.t 6), none⟩,
      ⟨(some 51), .indexA 1 (.t 49) (.t 50), none⟩,
      ⟨(some 52), .load 1 false (.t 51), none⟩,
      ⟨(some 53), .len true (.t 52), none⟩,
      ⟨(some 54), .bin .gtr (.t 53) (.c (.int .i64 100)), none⟩])
    (.keep [0, 1, 6, 54] (.cond (.t 54)
      (.seq (.reg [⟨(some 4), .mov (.c (.bool true)), none⟩])
      (.ret))
      (.skip)))))
  (.keep [0, 1, 6] (.reg [⟨(some 47), .mov (.t 6), none⟩,
      ⟨(some 48), .bin .add (.t 47) (.c (.int .i64 1)), none⟩,
      ⟨(some 6), .mov (.t 48), none⟩])))))
def c4 : ACode :=
  .seq (.reg [⟨(some 4), .mov (.c (.bool false)), none⟩])
  (.keep [0, 1] (.seq (.reg [⟨(some 20), .callF 9 [], none⟩,
      ⟨(some 5), .mov (.t 20), none⟩])
  (.keep [0, 1, 5] (.seq (.seq (.reg [⟨(some 21), .mov (.t 1), none⟩,
      ⟨(some 22), .len false (.t 21), none⟩,
      ⟨(some 23), .bin .gtr (.t 22) (.c (.int .i64 20)), none⟩,
      ⟨(some 24), .mov (.t 23), none⟩,
      ⟨(some 25), .mov (.t 1), (some (24, false))⟩,
      ⟨(some 26), .len false (.t 25), (some (24, false))⟩,
      ⟨(some 27), .bin .eql (.t 26) (.c (.int .i64 0)), (some (24, false))⟩,
      ⟨(some 28), .pick (.t 24) (.c (.bool true)) (.t 27), none⟩,
      ⟨(some 29), .mov (.t 28), none⟩,
      ⟨(some 30), .mov (.t 0), (some (29, false))⟩,
      ⟨(some 31), .bin .eql (.t 30) (.c (.str [])), (some (29, false))⟩,
      ⟨(some 32), .pick (.t 29) (.c (.bool true)) (.t 31), none⟩,
      ⟨(some 33), .mov (.t 32), none⟩,
      ⟨(some 34), .mov (.t 0), (some (33, false))⟩,
      ⟨(some 35), .len true (.t 34), (some (33, false))⟩,
      ⟨(some 36), .bin .gtr (.t 35) (.c (.int .i64 100)), (some (33, false))⟩,
      ⟨(some 37), .pick (.t 33) (.c (.bool true)) (.t 36), none⟩,
      ⟨(some 38), .mov (.t 37), none⟩,
      ⟨(some 39), .mov (.t 5), (some (38, false))⟩,
      ⟨(some 40), .not (.t 39), (some (38, false))⟩,
      ⟨(some 41), .pick (.t 38) (.c (.bool true)) (.t 40), none⟩])
  (.keep [0, 1, 5, 41] (.cond (.t 41)
    (.seq (.reg [⟨(some 42), .mov (.t 5), none⟩,
      ⟨(some 4), .mov (.t 42), none⟩])
    (.ret))
    (.skip))))
  (.keep [0, 1] (.seq (.seq (.reg [⟨(some 6), .mov (.c (.int .i64 0)), none⟩])
  (.keep [0, 1, 6] (.block 0 (.loop c4l0))))
  (.keep [0, 1] (.seq (.reg [⟨(some 55), .mov (.t 1), none⟩,
      ⟨(some 56), .callF 14 [(.t 55)], none⟩,
      ⟨(some 7), .mov (.t 56), none⟩])
  (.keep [0, 1, 7] (.seq (.reg [⟨(some 57), .mov (.t 0), none⟩,
      ⟨(some 58), .mov (.t 7), none⟩,
      ⟨(some 59), .build [.str [], .sl none 1 0 (some 0), .bool false, .bool false, .bool false, .str [], .int .i64 0] [(0, 1, (.t 57)), (1, 1, (.t 58)), (5, 1, (.c (.str [111]))), (6, 1, (.c (.int .i64 3)))], none⟩,
      ⟨(some 60), .bslice 7 1 [.str [], .sl none 1 0 (some 0), .bool false, .bool false, .bool false, .str [], .int .i64 0] [(0, 7, (.t 59))], none⟩,
      ⟨(some 8), .mov (.t 60), none⟩])
  (.keep [0, 1, 7, 8] (.seq (.reg [⟨(some 61), .build [.str [], .str []] [(0, 1, (.c (.str [102]))), (1, 1, (.c (.str [100])))], none⟩,
      ⟨(some 62), .bslice 2 1 [.str [], .str []] [(0, 2, (.t 61))], none⟩,
      ⟨(some 9), .mov (.t 62), none⟩])
  (.keep [0, 1, 7, 8, 9] (.seq (.reg [⟨(some 64), .mov (.t 9), none⟩,
      ⟨(some 65), .mov (.t 8), none⟩,
      ⟨(some 66), .build [.sl none 2 0 (some 0), .sl none 7 0 (some 0)] [(0, 1, (.t 64)), (1, 1, (.t 65))], none⟩,
      ⟨(some 67), .callF 10 [(.t 66)], none⟩,
      ⟨(some 63), .mov (.t 67), none⟩,
      ⟨(some 68), .extract (.t 63) 0, none⟩,
      ⟨(some 69), .extract (.t 63) 1, none⟩,
      ⟨(some 10), .mov (.t 68), none⟩,
      ⟨(some 11), .mov (.t 69), none⟩])
  (.keep [0, 1, 7, 8, 9, 10, 11] (.seq (.seq (.reg [⟨(some 70), .mov (.t 10), none⟩,
      ⟨(some 71), .eq false .ptr (.t 70) (.c (.ptr none)), none⟩,
      ⟨(some 72), .mov (.t 71), none⟩,
      ⟨(some 73), .mov (.t 11), (some (72, false))⟩,
      ⟨(some 74), .eq true .ifc (.t 73) (.c (.nilI)), (some (72, false))⟩,
      ⟨(some 75), .pick (.t 72) (.c (.bool true)) (.t 74), none⟩])
  (.keep [0, 1, 7, 8, 9, 10, 75] (.cond (.t 75)
    (.seq (.reg [⟨(some 4), .mov (.c (.bool false)), none⟩])
    (.ret))
    (.skip))))
  (.keep [0, 1, 7, 8, 9, 10] (.seq (.reg [⟨(some 76), .mov (.t 7), none⟩,
      ⟨(some 77), .mov (.t 7), none⟩,
      ⟨(some 78), .indexA 1 (.t 77) (.c (.int .i64 0)), none⟩,
      ⟨(some 79), .load 1 false (.t 78), none⟩,
      ⟨(some 80), .bin .add (.t 79) (.c (.str [120])), none⟩,
      ⟨(some 81), .indexA 1 (.t 76) (.c (.int .i64 0)), none⟩,
      ⟨none, .store 1 (.t 81) (.t 80), none⟩])
  (.keep [0, 1, 8, 9, 10] (.seq (.reg [⟨(some 82), .mov (.t 8), none⟩,
      ⟨(some 83), .indexA 7 (.t 82) (.c (.int .i64 0)), none⟩,
      ⟨(some 84), .fieldA 5 (.t 83), none⟩,
      ⟨none, .store 1 (.t 84) (.c (.str [112])), none⟩])
  (.keep [0, 1, 9, 10] (.seq (.reg [⟨(some 85), .mov (.t 9), none⟩,
      ⟨(some 86), .indexA 2 (.t 85) (.c (.int .i64 0)), none⟩,
      ⟨(some 87), .fieldA 1 (.t 86), none⟩,
      ⟨none, .store 1 (.t 87) (.c (.str [113])), none⟩])
  (.keep [0, 1, 10] (.seq (.reg [⟨(some 88), .mov (.t 1), none⟩,
      ⟨(some 89), .callF 14 [(.t 88)], none⟩,
      ⟨(some 12), .mov (.t 89), none⟩])
  (.keep [0, 1, 10, 12] (.seq (.reg [⟨(some 91), .mov (.t 10), none⟩,
      ⟨(some 92), .mov (.t 0), none⟩,
      ⟨(some 93), .mov (.t 12), none⟩,
      ⟨(some 94), .callF 15 [(.t 91), (.t 92), (.c (.str [])), (.t 93)], none⟩,
      ⟨(some 90), .mov (.t 94), none⟩,
      ⟨(some 95), .extract (.t 90) 0, none⟩,
      ⟨(some 96), .extract (.t 90) 1, none⟩,
      ⟨(some 97), .extract (.t 90) 2, none⟩,
      ⟨(some 13), .mov (.t 95), none⟩,
      ⟨(some 14), .mov (.t 96), none⟩,
      ⟨(some 15), .mov (.t 97), none⟩])
  (.keep [0, 1, 10, 12, 13, 14, 15] (.seq (.reg [⟨(some 98), .mov (.t 12), none⟩,
      ⟨(some 99), .indexA 1 (.t 98) (.c (.int .i64 0)), none⟩,
      ⟨none, .store 1 (.t 99) (.c (.str [115, 112, 111, 105, 108, 116])), none⟩])
  (.keep [0, 1, 10, 13, 14, 15] (.seq (.reg [⟨(some 100), .mov (.t 10), none⟩,
      ⟨(some 101), .nilchk (.t 100), none⟩,
      ⟨(some 102), .fieldA 0 (.t 101), none⟩,
      ⟨(some 103), .callF 16 [(.t 102)], none⟩,
      ⟨(some 16), .mov (.t 103), none⟩])
  (.keep [0, 1, 10, 13, 14, 15, 16] (.seq (.seq (.reg [⟨(some 104), .mov (.t 16), none⟩,
      ⟨(some 105), .len false (.t 104), none⟩,
      ⟨(some 106), .bin .neq (.t 105) (.c (.int .i64 1)), none⟩,
      ⟨(some 107), .mov (.t 106), none⟩,
      ⟨(some 108), .mov (.t 16), (some (107, false))⟩,
      ⟨(some 109), .indexA 5 (.t 108) (.c (.int .i64 0)), (some (107, false))⟩,
      ⟨(some 110), .fieldA 4 (.t 109), (some (107, false))⟩,
      ⟨(some 111), .load 1 false (.t 110), (some (107, false))⟩,
      ⟨(some 112), .len false (.t 111), (some (107, false))⟩,
      ⟨(some 113), .mov (.t 1), (some (107, false))⟩,
      ⟨(some 114), .len false (.t 113), (some (107, false))⟩,
      ⟨(some 115), .bin .neq (.t 112) (.t 114), (some (107, false))⟩,
      ⟨(some 116), .pick (.t 107) (.c (.bool true)) (.t 115), none⟩])
  (.keep [0, 1, 10, 13, 14, 15, 16, 116] (.cond (.t 116)
    (.seq (.reg [⟨(some 4), .mov (.c (.bool false)), none⟩])
    (.ret))
    (.skip))))
  (.keep [0, 1, 10, 13, 14, 15, 16] (.seq (.reg [⟨(some 117), .mov (.t 16), none⟩,
      ⟨(some 118), .indexA 5 (.t 117) (.c (.int .i64 0)), none⟩,
      ⟨(some 119), .fieldA 4 (.t 118), none⟩,
      ⟨(some 120), .load 1 false (.t 119), none⟩,
      ⟨(some 121), .indexA 1 (.t 120) (.c (.int .i64 0)), none⟩,
      ⟨none, .store 1 (.t 121) (.c (.str [115, 112, 111, 105, 108, 116])), none⟩])
  (.keep [0, 1, 10, 13, 14, 15, 16] (.seq (.reg [⟨(some 122), .mov (.t 16), none⟩,
      ⟨(some 123), .indexA 5 (.t 122) (.c (.int .i64 0)), none⟩,
      ⟨(some 124), .fieldA 2 (.t 123), none⟩,
      ⟨none, .store 1 (.t 124) (.c (.str [115, 112, 111, 105, 108, 116])), none⟩])
  (.keep [0, 1, 10, 13, 14, 15] (.seq (.reg [⟨(some 125), .mov (.t 10), none⟩,
      ⟨(some 126), .callF 17 [(.t 125)], none⟩,
      ⟨(some 17), .mov (.t 126), none⟩])
  (.keep [0, 1, 10, 13, 14, 15, 17] (.seq (.seq (.reg [⟨(some 127), .mov (.t 17), none⟩,
      ⟨(some 128), .len false (.t 127), none⟩,
      ⟨(some 129), .bin .neq (.t 128) (.c (.int .i64 1)), none⟩])
  (.keep [0, 1, 10, 13, 14, 15, 17, 129] (.cond (.t 129)
    (.seq (.reg [⟨(some 4), .mov (.c (.bool false)), none⟩])
    (.ret))
    (.skip))))
  (.keep [0, 1, 10, 13, 14, 15, 17] (.seq (.reg [⟨(some 130), .mov (.t 17), none⟩,
      ⟨(some 131), .indexA 2 (.t 130) (.c (.int .i64 0)), none⟩,
      ⟨(some 132), .fieldA 1 (.t 131), none⟩,
      ⟨none, .store 1 (.t 132) (.c (.str [115, 112, 111, 105, 108, 116])), none⟩])
  (.keep [0, 1, 10, 13, 14, 15] (.seq (.reg [⟨(some 133), .mov (.t 10), none⟩,
      ⟨(some 134), .nilchk (.t 133), none⟩,
      ⟨(some 135), .fieldA 0 (.t 134), none⟩,
      ⟨(some 136), .callF 16 [(.t 135)], none⟩,
      ⟨(some 18), .mov (.t 136), none⟩])
  (.keep [0, 1, 10, 13, 14, 15, 18] (.seq (.reg [⟨(some 137), .mov (.t 10), none⟩,
      ⟨(some 138), .callF 17 [(.t 137)], none⟩,
      ⟨(some 19), .mov (.t 138), none⟩])
  (.keep [0, 1, 13, 14, 15, 18, 19] (.seq (.seq (.reg [⟨(some 139), .mov (.t 18), none⟩,
      ⟨(some 140), .len false (.t 139), none⟩,
      ⟨(some 141), .bin .neq (.t 140) (.c (.int .i64 1)), none⟩,
      ⟨(some 142), .mov (.t 141), none⟩,
      ⟨(some 143), .mov (.t 19), (some (142, false))⟩,
      ⟨(some 144), .len false (.t 143), (some (142, false))⟩,
      ⟨(some 145), .bin .neq (.t 144) (.c (.int .i64 1)), (some (142, false))⟩,
      ⟨(some 146), .pick (.t 142) (.c (.bool true)) (.t 145), none⟩])
  (.keep [0, 1, 13, 14, 15, 18, 19, 146] (.cond (.t 146)
    (.seq (.reg [⟨(some 4), .mov (.c (.bool false)), none⟩])
    (.ret))
    (.skip))))
  (.keep [0, 1, 13, 14, 15, 18, 19] (.seq (.reg [⟨(some 147), .mov (.t 13), none⟩,
      ⟨(some 148), .bin .eql (.t 147) (.c (.str [111])), none⟩,
      ⟨(some 149), .mov (.t 148), none⟩,
      ⟨(some 150), .mov (.t 14), (some (149, true))⟩,
      ⟨(some 151), .bin .eql (.t 150) (.c (.int .i64 3)), (some (149, true))⟩,
      ⟨(some 152), .pick (.t 149) (.t 151) (.c (.bool false)), none⟩,
      ⟨(some 153), .mov (.t 152), none⟩,
      ⟨(some 154), .mov (.t 15), (some (153, true))⟩,
      ⟨(some 155), .pick (.t 153) (.t 154) (.c (.bool false)), none⟩,
      ⟨(some 156), .mov (.t 155), none⟩,
      ⟨(some 157), .mov (.t 18), (some (156, true))⟩,
      ⟨(some 158), .indexA 5 (.t 157) (.c (.int .i64 0)), (some (156, true))⟩,
      ⟨(some 159), .fieldA 4 (.t 158), (some (156, true))⟩,
      ⟨(some 160), .load 1 false (.t 159), (some (156, true))⟩,
      ⟨(some 161), .mov (.t 1), (some (156, true))⟩,
      ⟨(some 162), .callF 18 [(.t 160), (.t 161)], (some (156, true))⟩,
      ⟨(some 163), .pick (.t 156) (.t 162) (.c (.bool false)), none⟩,
      ⟨(some 164), .mov (.t 163), none⟩,
      ⟨(some 165), .mov (.t 18), (some (164, true))⟩,
      ⟨(some 166), .indexA 5 (.t 165) (.c (.int .i64 0)), (some (164, true))⟩,
      ⟨(some 167), .fieldA 2 (.t 166), (some (164, true))⟩,
      ⟨(some 168), .load 1 false (.t 167), (some (164, true))⟩,
      ⟨(some 169), .mov (.t 0), (some (164, true))⟩,
      ⟨(some 170), .bin .eql (.t 168) (.t 169), (some (164, true))⟩,
      ⟨(some 171), .pick (.t 164) (.t 170) (.c (.bool false)), none⟩,
      ⟨(some 172), .mov (.t 171), none⟩,
      ⟨(some 173), .mov (.t 19), (some (172, true))⟩,
      ⟨(some 174), .indexA 2 (.t 173) (.c (.int .i64 0)), (some (172, true))⟩,
      ⟨(some 175), .fieldA 1 (.t 174), (some (172, true))⟩,
      ⟨(some 176), .load 1 false (.t 175), (some (172, true))⟩,
      ⟨(some 177), .bin .eql (.t 176) (.c (.str [100])), (some (172, true))⟩,
      ⟨(some 178), .pick (.t 172) (.t 177) (.c (.bool false)), none⟩,
      ⟨(some 4), .mov (.t 178), none⟩])
  (.ret)))))))))))))))))))))))))))))))))))))))))))))))))))
def a4 : AFun := ⟨2, c4, [.tmp 4]⟩

/- patois/patoislaw4.KernelRows -/
def c5l0 : ACode :=
  .keep [0, 1, 2, 3, 10] (.seq (.seq (.reg [⟨(some 43), .mov (.t 10), none⟩,
      ⟨(some 44), .mov (.t 1), none⟩,
      ⟨(some 45), .len false (.t 44), none⟩,
      ⟨(some 46), .bin .lss (.t 43) (.t 45), none⟩])
  (.keep [0, 1, 2, 3, 10, 46] (.cond (.t 46)
    (.skip)
    (.exit 0))))
  (.keep [0, 1, 2, 3, 10] (.seq (.block 1 (.seq (.reg [⟨(some 49), .mov (.t 1), none⟩,
      ⟨(some 50), .mov (.t 10), none⟩,
      ⟨(some 51), .indexA 1 (.t 49) (.t 50), none⟩,
      ⟨(some 52), .load 1 false (.t 51), none⟩,
      ⟨(some 53), .len true (.t 52), none⟩,
      ⟨(some 54), .bin .gtr (.t 53) (.c (.int .i64 100)), none⟩])
    (.keep [0, 1, 2, 3, 10, 54] (.cond (.t 54)
      (.seq (.reg [⟨(some 8), .mov (.c (.bool true)), none⟩])
      (.ret))
      (.skip)))))
  (.keep [0, 1, 2, 3, 10] (.reg [⟨(some 47), .mov (.t 10), none⟩,
      ⟨(some 48), .bin .add (.t 47) (.c (.int .i64 1)), none⟩,
      ⟨(some 10), .mov (.t 48), none⟩])))))
def c5l1 : ACode :=
  .keep [0, 1, 2, 3, 11, 12, 13] (.seq (.seq (.reg [⟨(some 55), .mov (.t 13), none⟩,
      ⟨(some 56), .mov (.t 0), none⟩,
      ⟨(some 57), .len false (.t 56), none⟩,
      ⟨(some 58), .bin .lss (.t 55) (.t 57), none⟩])
  (.keep [0, 1, 2, 3, 11, 12, 13, 58] (.cond (.t 58)
    (.skip)
    (.exit 2))))
  (.keep [0, 1, 2, 3, 11, 12, 13] (.seq (.block 3 (.seq (.seq (.reg [⟨(some 61), .mov (.t 0), none⟩,
      ⟨(some 62), .mov (.t 13), none⟩,
      ⟨(some 63), .indexA 1 (.t 61) (.t 62), none⟩,
      ⟨(some 64), .load 1 false (.t 63), none⟩,
      ⟨(some 65), .len true (.t 64), none⟩,
      ⟨(some 66), .bin .gtr (.t 65) (.c (.int .i64 300)), none⟩])
    (.keep [0, 1, 2, 3, 11, 12, 13, 66] (.cond (.t 66)
      (.seq (.reg [⟨(some 8), .mov (.c (.bool true)), none⟩])
      (.ret))
      (.skip))))
    (.keep [0, 1, 2, 3, 11, 12, 13] (.seq (.reg [⟨(some 67), .mov (.t 2), none⟩,
      ⟨(some 68), .mov (.t 13), none⟩,
      ⟨(some 69), .conv .u64 (.t 68), none⟩,
      ⟨(some 70), .bin .shr (.t 67) (.t 69), none⟩,
      ⟨(some 71), .bin .and (.t 70) (.c (.int .i64 1)), none⟩,
      ⟨(some 72), .bin .eql (.t 71) (.c (.int .i64 1)), none⟩,
      ⟨(some 73), .mov (.t 13), none⟩,
      ⟨(some 74), .bin .rem (.t 73) (.c (.int .i64 2)), none⟩,
      ⟨(some 75), .bin .eql (.t 74) (.c (.int .i64 0)), none⟩,
      ⟨(some 76), .mov (.t 13), none⟩,
      ⟨(some 77), .bin .rem (.t 76) (.c (.int .i64 3)), none⟩,
      ⟨(some 78), .bin .eql (.t 77) (.c (.int .i64 0)), none⟩,
      ⟨(some 79), .mov (.t 0), none⟩,
      ⟨(some 80), .mov (.t 13), none⟩,
      ⟨(some 81), .indexA 1 (.t 79) (.t 80), none⟩,
      ⟨(some 82), .load 1 false (.t 81), none⟩,
      ⟨(some 83), .mov (.t 13), none⟩,
      ⟨(some 84), .build [.str [], .sl none 1 0 (some 0), .bool false, .bool false, .bool false, .str [], .int .i64 0] [(0, 1, (.c (.str [99]))), (2, 1, (.t 72)), (3, 1, (.t 75)), (4, 1, (.t 78)), (5, 1, (.t 82)), (6, 1, (.t 83))], none⟩,
      ⟨(some 14), .alloc [.str [], .sl none 1 0 (some 0), .bool false, .bool false, .bool false, .str [], .int .i64 0], none⟩,
      ⟨none, .store 7 (.t 14) (.t 84), none⟩])
    (.keep [0, 1, 2, 3, 11, 12, 13, 14] (.seq (.seq (.reg [⟨(some 85), .mov (.t 2), none⟩,
      ⟨(some 86), .mov (.t 13), none⟩,
      ⟨(some 87), .bin .add (.t 86) (.c (.int .i64 8)), none⟩,
      ⟨(some 88), .conv .u64 (.t 87), none⟩,
      ⟨(some 89), .bin .shr (.t 85) (.t 88), none⟩,
      ⟨(some 90), .bin .and (.t 89) (.c (.int .i64 1)), none⟩,
      ⟨(some 91), .bin .eql (.t 90) (.c (.int .i64 1)), none⟩])
    (.keep [0, 1, 2, 3, 11, 12, 13, 14, 91] (.cond (.t 91)
      (.reg [⟨(some 92), .mov (.t 1), none⟩,
      ⟨(some 93), .fieldA 1 (.t 14), none⟩,
      ⟨none, .store 1 (.t 93) (.t 92), none⟩])
      (.reg [⟨(some 94), .bslice 1 6 [.str [], .str [], .str [], .str [], .str [], .str []] [(0, 1, (.c (.str [111, 116, 104, 101, 114]))), (1, 1, (.c (.str [97, 114, 103, 115]))), (2, 1, (.c (.str [116, 104, 97, 116]))), (3, 1, (.c (.str [110, 111, 98, 111, 100, 121]))), (4, 1, (.c (.str [104, 97, 110, 100, 115]))), (5, 1, (.c (.str [105, 110])))], none⟩,
      ⟨(some 95), .fieldA 1 (.t 14), none⟩,
      ⟨none, .store 1 (.t 95) (.t 94), none⟩]))))
    (.keep [0, 1, 2, 3, 11, 12, 13, 14] (.seq (.seq (.reg [⟨(some 96), .mov (.t 12), none⟩,
      ⟨(some 97), .bin .lss (.t 96) (.c (.int .i64 0)), none⟩,
      ⟨(some 98), .mov (.t 97), none⟩,
      ⟨(some 99), .fieldA 2 (.t 14), (some (98, true))⟩,
      ⟨(some 100), .load 1 false (.t 99), (some (98, true))⟩,
      ⟨(some 101), .mov (.t 100), (some (98, true))⟩,
      ⟨(some 102), .mov (.t 2), (some (101, false))⟩,
      ⟨(some 103), .mov (.t 13), (some (101, false))⟩,
      ⟨(some 104), .bin .add (.t 103) (.c (.int .i64 8)), (some (101, false))⟩,
      ⟨(some 105), .conv .u64 (.t 104), (some (101, false))⟩,
      ⟨(some 106), .bin .shr (.t 102) (.t 105), (some (101, false))⟩,
      ⟨(some 107), .bin .and (.t 106) (.c (.int .i64 1)), (some (101, false))⟩,
      ⟨(some 108), .bin .eql (.t 107) (.c (.int .i64 1)), (some (101, false))⟩,
      ⟨(some 109), .pick (.t 101) (.c (.bool true)) (.t 108), (some (98, true))⟩,
      ⟨(some 110), .pick (.t 98) (.t 109) (.c (.bool false)), none⟩])
    (.keep [0, 1, 2, 3, 11, 12, 13, 14, 110] (.cond (.t 110)
      (.reg [⟨(some 111), .mov (.t 13), none⟩,
      ⟨(some 12), .mov (.t 111), none⟩])
      (.skip))))
    (.keep [0, 1, 2, 3, 11, 12, 13, 14] (.reg [⟨(some 112), .fieldA 1 (.t 11), none⟩,
      ⟨(some 113), .load 1 false (.t 112), none⟩,
      ⟨(some 114), .load 7 true (.t 14), none⟩,
      ⟨(some 115), .bslice 7 1 [.str [], .sl none 1 0 (some 0), .bool false, .bool false, .bool false, .str [], .int .i64 0] [(0, 7, (.t 114))], none⟩,
      ⟨(some 116), .append 7 72 (.t 113) (.t 115), none⟩,
      ⟨(some 117), .fieldA 1 (.t 11), none⟩,
      ⟨none, .store 1 (.t 117) (.t 116), none⟩]))))))))))
  (.keep [0, 1, 2, 3, 11, 12, 13] (.reg [⟨(some 59), .mov (.t 13), none⟩,
      ⟨(some 60), .bin .add (.t 59) (.c (.int .i64 1)), none⟩,
      ⟨(some 13), .mov (.t 60), none⟩])))))
def c5 : ACode :=
  .seq (.reg [⟨(some 8), .mov (.c (.bool false)), none⟩])
  (.keep [0, 1, 2, 3] (.seq (.reg [⟨(some 24), .callF 9 [], none⟩,
      ⟨(some 9), .mov (.t 24), none⟩])
  (.keep [0, 1, 2, 3, 9] (.seq (.seq (.reg [⟨(some 25), .mov (.t 0), none⟩,
      ⟨(some 26), .len false (.t 25), none⟩,
      ⟨(some 27), .bin .gtr (.t 26) (.c (.int .i64 8)), none⟩,
      ⟨(some 28), .mov (.t 27), none⟩,
      ⟨(some 29), .mov (.t 1), (some (28, false))⟩,
      ⟨(some 30), .len false (.t 29), (some (28, false))⟩,
      ⟨(some 31), .bin .gtr (.t 30) (.c (.int .i64 5)), (some (28, false))⟩,
      ⟨(some 32), .pick (.t 28) (.c (.bool true)) (.t 31), none⟩,
      ⟨(some 33), .mov (.t 32), none⟩,
      ⟨(some 34), .mov (.t 3), (some (33, false))⟩,
      ⟨(some 35), .len true (.t 34), (some (33, false))⟩,
      ⟨(some 36), .bin .gtr (.t 35) (.c (.int .i64 300)), (some (33, false))⟩,
      ⟨(some 37), .pick (.t 33) (.c (.bool true)) (.t 36), none⟩,
      ⟨(some 38), .mov (.t 37), none⟩,
      ⟨(some 39), .mov (.t 9), (some (38, false))⟩,
      ⟨(some 40), .not (.t 39), (some (38, false))⟩,
      ⟨(some 41), .pick (.t 38) (.c (.bool true)) (.t 40), none⟩])
  (.keep [0, 1, 2, 3, 9, 41] (.cond (.t 41)
    (.seq (.reg [⟨(some 42), .mov (.t 9), none⟩,
      ⟨(some 8), .mov (.t 42), none⟩])
    (.ret))
    (.skip))))
  (.keep [0, 1, 2, 3] (.seq (.seq (.reg [⟨(some 10), .mov (.c (.int .i64 0)), none⟩])
  (.keep [0, 1, 2, 3, 10] (.block 0 (.loop c5l0))))
  (.keep [0, 1, 2, 3] (.seq (.reg [⟨(some 11), .alloc [.sl none 2 0 (some 0), .sl none 7 0 (some 0)], none⟩])
  (.keep [0, 1, 2, 3, 11] (.seq (.reg [⟨(some 12), .mov (.c (.int .i64 (-1))), none⟩])
  (.keep [0, 1, 2, 3, 11, 12] (.seq (.seq (.reg [⟨(some 13), .mov (.c (.int .i64 0)), none⟩])
  (.keep [0, 1, 2, 3, 11, 12, 13] (.block 2 (.loop c5l1))))
  (.keep [0, 1, 3, 11, 12] (.seq (.reg [⟨(some 119), .load 2 true (.t 11), none⟩,
      ⟨(some 120), .callF 10 [(.t 119)], none⟩,
      ⟨(some 118), .mov (.t 120), none⟩,
      ⟨(some 121), .extract (.t 118) 0, none⟩,
      ⟨(some 122), .extract (.t 118) 1, none⟩,
      ⟨(some 15), .mov (.t 121), none⟩,
      ⟨(some 16), .mov (.t 122), none⟩])
  (.keep [0, 1, 3, 12, 15, 16] (.seq (.seq (.reg [⟨(some 123), .mov (.t 15), none⟩,
      ⟨(some 124), .eq false .ptr (.t 123) (.c (.ptr none)), none⟩,
      ⟨(some 125), .mov (.t 124), none⟩,
      ⟨(some 126), .mov (.t 16), (some (125, false))⟩,
      ⟨(some 127), .eq true .ifc (.t 126) (.c (.nilI)), (some (125, false))⟩,
      ⟨(some 128), .pick (.t 125) (.c (.bool true)) (.t 127), none⟩])
  (.keep [0, 1, 3, 12, 15, 128] (.cond (.t 128)
    (.seq (.reg [⟨(some 8), .mov (.c (.bool false)), none⟩])
    (.ret))
    (.skip))))
  (.keep [0, 1, 3, 12, 15] (.seq (.reg [⟨(some 129), .mov (.t 15), none⟩,
      ⟨(some 130), .mov (.t 1), none⟩,
      ⟨(some 131), .callF 19 [(.t 129), (.c (.str [99])), (.t 130)], none⟩,
      ⟨(some 17), .mov (.t 131), none⟩])
  (.keep [0, 1, 3, 12, 15, 17] (.seq (.reg [⟨(some 133), .mov (.t 15), none⟩,
      ⟨(some 134), .mov (.t 3), none⟩,
      ⟨(some 135), .mov (.t 1), none⟩,
      ⟨(some 136), .callF 15 [(.t 133), (.c (.str [99])), (.t 134), (.t 135)], none⟩,
      ⟨(some 132), .mov (.t 136), none⟩,
      ⟨(some 137), .extract (.t 132) 0, none⟩,
      ⟨(some 138), .extract (.t 132) 1, none⟩,
      ⟨(some 139), .extract (.t 132) 2, none⟩,
      ⟨(some 18), .mov (.t 137), none⟩,
      ⟨(some 19), .mov (.t 138), none⟩,
      ⟨(some 20), .mov (.t 139), none⟩])
  (.keep [0, 1, 3, 12, 15, 17, 18, 19, 20] (.seq (.reg [⟨(some 140), .mov (.t 15), none⟩,
      ⟨(some 141), .nilchk (.t 140), none⟩,
      ⟨(some 142), .fieldA 0 (.t 141), none⟩,
      ⟨(some 143), .callF 16 [(.t 142)], none⟩,
      ⟨(some 21), .mov (.t 143), none⟩])
  (.keep [0, 1, 3, 12, 17, 18, 19, 20, 21] (.seq (.seq (.reg [⟨(some 144), .mov (.t 21), none⟩,
      ⟨(some 145), .len false (.t 144), none⟩,
      ⟨(some 146), .bin .neq (.t 145) (.c (.int .i64 1)), none⟩,
      ⟨(some 147), .mov (.t 146), none⟩,
      ⟨(some 148), .mov (.t 21), (some (147, false))⟩,
      ⟨(some 149), .indexA 5 (.t 148) (.c (.int .i64 0)), (some (147, false))⟩,
      ⟨(some 150), .fieldA 4 (.t 149), (some (147, false))⟩,
      ⟨(some 151), .load 1 false (.t 150), (some (147, false))⟩,
      ⟨(some 152), .mov (.t 1), (some (147, false))⟩,
      ⟨(some 153), .callF 18 [(.t 151), (.t 152)], (some (147, false))⟩,
      ⟨(some 154), .not (.t 153), (some (147, false))⟩,
      ⟨(some 155), .pick (.t 147) (.c (.bool true)) (.t 154), none⟩,
      ⟨(some 156), .mov (.t 155), none⟩,
      ⟨(some 157), .mov (.t 21), (some (156, false))⟩,
      ⟨(some 158), .indexA 5 (.t 157) (.c (.int .i64 0)), (some (156, false))⟩,
      ⟨(some 159), .fieldA 2 (.t 158), (some (156, false))⟩,
      ⟨(some 160), .load 1 false (.t 159), (some (156, false))⟩,
      ⟨(some 161), .bin .neq (.t 160) (.c (.str [99])), (some (156, false))⟩,
      ⟨(some 162), .pick (.t 156) (.c (.bool true)) (.t 161), none⟩,
      ⟨(some 163), .mov (.t 162), none⟩,
      ⟨(some 164), .mov (.t 21), (some (163, false))⟩,
      ⟨(some 165), .indexA 5 (.t 164) (.c (.int .i64 0)), (some (163, false))⟩,
      ⟨(some 166), .fieldA 0 (.t 165), (some (163, false))⟩,
      ⟨(some 167), .load 1 false (.t 166), (some (163, false))⟩,
      ⟨(some 168), .bin .neq (.t 167) (.c (.int .i64 1)), (some (163, false))⟩,
      ⟨(some 169), .pick (.t 163) (.c (.bool true)) (.t 168), none⟩])
  (.keep [0, 3, 12, 17, 18, 19, 20, 21, 169] (.cond (.t 169)
    (.seq (.reg [⟨(some 8), .mov (.c (.bool false)), none⟩])
    (.ret))
    (.skip))))
  (.keep [0, 3, 12, 17, 18, 19, 20, 21] (.seq (.seq (.reg [⟨(some 170), .mov (.t 12), none⟩,
      ⟨(some 171), .bin .lss (.t 170) (.c (.int .i64 0)), none⟩])
  (.keep [0, 3, 12, 17, 18, 19, 20, 21, 171] (.cond (.t 171)
    (.seq (.reg [⟨(some 172), .mov (.t 20), none⟩,
      ⟨(some 173), .not (.t 172), none⟩,
      ⟨(some 174), .mov (.t 173), none⟩,
      ⟨(some 175), .mov (.t 17), (some (174, true))⟩,
      ⟨(some 176), .not (.t 175), (some (174, true))⟩,
      ⟨(some 177), .pick (.t 174) (.t 176) (.c (.bool false)), none⟩,
      ⟨(some 178), .mov (.t 177), none⟩,
      ⟨(some 179), .mov (.t 18), (some (178, true))⟩,
      ⟨(some 180), .bin .eql (.t 179) (.c (.str [])), (some (178, true))⟩,
      ⟨(some 181), .pick (.t 178) (.t 180) (.c (.bool false)), none⟩,
      ⟨(some 182), .mov (.t 181), none⟩,
      ⟨(some 183), .mov (.t 19), (some (182, true))⟩,
      ⟨(some 184), .bin .eql (.t 183) (.c (.int .i64 127)), (some (182, true))⟩,
      ⟨(some 185), .pick (.t 182) (.t 184) (.c (.bool false)), none⟩,
      ⟨(some 186), .mov (.t 185), none⟩,
      ⟨(some 187), .mov (.t 21), (some (186, true))⟩,
      ⟨(some 188), .indexA 5 (.t 187) (.c (.int .i64 0)), (some (186, true))⟩,
      ⟨(some 189), .fieldA 1 (.t 188), (some (186, true))⟩,
      ⟨(some 190), .load 1 false (.t 189), (some (186, true))⟩,
      ⟨(some 191), .bin .eql (.t 190) (.c (.int .i64 127)), (some (186, true))⟩,
      ⟨(some 192), .pick (.t 186) (.t 191) (.c (.bool false)), none⟩,
      ⟨(some 193), .mov (.t 192), none⟩,
      ⟨(some 194), .mov (.t 21), (some (193, true))⟩,
      ⟨(some 195), .indexA 5 (.t 194) (.c (.int .i64 0)), (some (193, true))⟩,
      ⟨(some 196), .fieldA 3 (.t 195), (some (193, true))⟩,
      ⟨(some 197), .load 1 false (.t 196), (some (193, true))⟩,
      ⟨(some 198), .bin .eql (.t 197) (.c (.str [])), (some (193, true))⟩,
      ⟨(some 199), .pick (.t 193) (.t 198) (.c (.bool false)), none⟩,
      ⟨(some 8), .mov (.t 199), none⟩])
    (.ret))
    (.skip))))
  (.keep [0, 3, 12, 17, 18, 19, 20, 21] (.seq (.reg [⟨(some 200), .mov (.t 0), none⟩,
      ⟨(some 201), .mov (.t 12), none⟩,
      ⟨(some 202), .indexA 1 (.t 200) (.t 201), none⟩,
      ⟨(some 203), .load 1 false (.t 202), none⟩,
      ⟨(some 22), .mov (.t 203), none⟩])
  (.keep [3, 12, 17, 18, 19, 20, 21, 22] (.seq (.seq (.reg [⟨(some 204), .mov (.t 12), none⟩,
      ⟨(some 205), .bin .rem (.t 204) (.c (.int .i64 3)), none⟩,
      ⟨(some 206), .bin .eql (.t 205) (.c (.int .i64 0)), none⟩])
  (.keep [3, 12, 17, 18, 19, 20, 21, 22, 206] (.cond (.t 206)
    (.reg [⟨(some 207), .mov (.t 22), none⟩,
      ⟨(some 208), .mov (.t 3), none⟩,
      ⟨(some 209), .bin .add (.t 207) (.t 208), none⟩,
      ⟨(some 22), .mov (.t 209), none⟩])
    (.skip))))
  (.keep [3, 12, 17, 18, 19, 20, 21, 22] (.seq (.reg [⟨(some 23), .mov (.c (.str [])), none⟩])
  (.keep [3, 12, 17, 18, 19, 20, 21, 22, 23] (.seq (.seq (.reg [⟨(some 210), .mov (.t 12), none⟩,
      ⟨(some 211), .bin .rem (.t 210) (.c (.int .i64 2)), none⟩,
      ⟨(some 212), .bin .eql (.t 211) (.c (.int .i64 0)), none⟩])
  (.keep [3, 12, 17, 18, 19, 20, 21, 22, 23, 212] (.cond (.t 212)
    (.reg [⟨(some 213), .mov (.t 3), none⟩,
      ⟨(some 23), .mov (.t 213), none⟩])
    (.skip))))
  (.keep [12, 17, 18, 19, 20, 21, 22, 23] (.seq (.reg [⟨(some 214), .mov (.t 20), none⟩,
      ⟨(some 215), .mov (.t 214), none⟩,
      ⟨(some 216), .mov (.t 18), (some (215, true))⟩,
      ⟨(some 217), .mov (.t 22), (some (215, true))⟩,
      ⟨(some 218), .bin .eql (.t 216) (.t 217), (some (215, true))⟩,
      ⟨(some 219), .pick (.t 215) (.t 218) (.c (.bool false)), none⟩,
      ⟨(some 220), .mov (.t 219), none⟩,
      ⟨(some 221), .mov (.t 19), (some (220, true))⟩,
      ⟨(some 222), .mov (.t 12), (some (220, true))⟩,
      ⟨(some 223), .bin .eql (.t 221) (.t 222), (some (220, true))⟩,
      ⟨(some 224), .pick (.t 220) (.t 223) (.c (.bool false)), none⟩,
      ⟨(some 225), .mov (.t 224), none⟩,
      ⟨(some 226), .mov (.t 21), (some (225, true))⟩,
      ⟨(some 227), .indexA 5 (.t 226) (.c (.int .i64 0)), (some (225, true))⟩,
      ⟨(some 228), .fieldA 1 (.t 227), (some (225, true))⟩,
      ⟨(some 229), .load 1 false (.t 228), (some (225, true))⟩,
      ⟨(some 230), .mov (.t 12), (some (225, true))⟩,
      ⟨(some 231), .bin .eql (.t 229) (.t 230), (some (225, true))⟩,
      ⟨(some 232), .pick (.t 225) (.t 231) (.c (.bool false)), none⟩,
      ⟨(some 233), .mov (.t 232), none⟩,
      ⟨(some 234), .mov (.t 21), (some (233, true))⟩,
      ⟨(some 235), .indexA 5 (.t 234) (.c (.int .i64 0)), (some (233, true))⟩,
      ⟨(some 236), .fieldA 3 (.t 235), (some (233, true))⟩,
      ⟨(some 237), .load 1 false (.t 236), (some (233, true))⟩,
      ⟨(some 238), .mov (.t 23), (some (233, true))⟩,
      ⟨(some 239), .bin .eql (.t 237) (.t 238), (some (233, true))⟩,
      ⟨(some 240), .pick (.t 233) (.t 239) (.c (.bool false)), none⟩,
      ⟨(some 241), .mov (.t 240), none⟩,
      ⟨(some 242), .mov (.t 17), (some (241, true))⟩,
      ⟨(some 243), .mov (.t 12), (some (241, true))⟩,
      ⟨(some 244), .bin .rem (.t 243) (.c (.int .i64 2)), (some (241, true))⟩,
      ⟨(some 245), .bin .eql (.t 244) (.c (.int .i64 0)), (some (241, true))⟩,
      ⟨(some 246), .eq false .bool (.t 242) (.t 245), (some (241, true))⟩,
      ⟨(some 247), .pick (.t 241) (.t 246) (.c (.bool false)), none⟩,
      ⟨(some 8), .mov (.t 247), none⟩])
  (.ret)))))))))))))))))))))))))))))))))))))
def a5 : AFun := ⟨4, c5, [.tmp 8]⟩

/- patois/patoislaw4.KernelMarks -/
def c6l0 : ACode :=
  .keep [0, 1, 6, 8, 9] (.seq (.seq (.reg [⟨(some 31), .mov (.t 9), none⟩,
      ⟨(some 32), .mov (.t 0), none⟩,
      ⟨(some 33), .len false (.t 32), none⟩,
      ⟨(some 34), .bin .lss (.t 31) (.t 33), none⟩])
  (.keep [0, 1, 6, 8, 9, 34] (.cond (.t 34)
    (.skip)
    (.exit 0))))
  (.keep [0, 1, 6, 8, 9] (.seq (.block 1 (.seq (.reg [⟨(some 10), .mov (.c (.int .i64 0)), none⟩])
    (.keep [0, 1, 6, 8, 9, 10] (.seq (.seq (.reg [⟨(some 37), .mov (.t 9), none⟩,
      ⟨(some 38), .mov (.t 1), none⟩,
      ⟨(some 39), .len false (.t 38), none⟩,
      ⟨(some 40), .bin .lss (.t 37) (.t 39), none⟩])
    (.keep [0, 1, 6, 8, 9, 10, 40] (.cond (.t 40)
      (.reg [⟨(some 41), .mov (.t 1), none⟩,
      ⟨(some 42), .mov (.t 9), none⟩,
      ⟨(some 43), .indexA 1 (.t 41) (.t 42), none⟩,
      ⟨(some 44), .load 1 false (.t 43), none⟩,
      ⟨(some 10), .mov (.t 44), none⟩])
      (.skip))))
    (.keep [0, 1, 6, 8, 9, 10] (.seq (.dreg [⟨0, ⟨(some 45), .mov (.t 6), none⟩, [], []⟩,
      ⟨1, ⟨(some 46), .nilchk (.t 45), none⟩, [0], []⟩,
      ⟨2, ⟨(some 47), .fieldA 0 (.t 46), none⟩, [0, 1], []⟩,
      ⟨3, ⟨(some 48), .mov (.t 0), none⟩, [], []⟩,
      ⟨4, ⟨(some 49), .mov (.t 9), none⟩, [], []⟩,
      ⟨5, ⟨(some 50), .indexA 1 (.t 48) (.t 49), none⟩, [3, 4], []⟩,
      ⟨6, ⟨(some 51), .load 1 false (.t 50), none⟩, [3, 4, 5], []⟩,
      ⟨7, ⟨(some 52), .mov (.t 10), none⟩, [], []⟩,
      ⟨8, ⟨(some 53), .callF 20 [(.t 47), (.t 51), (.t 52)], none⟩, [0, 1, 2, 3, 4, 5, 6, 7], []⟩])
    (.keep [0, 1, 6, 8, 9, 10] (.seq (.reg [⟨(some 54), .mov (.t 0), none⟩,
      ⟨(some 55), .mov (.t 9), none⟩,
      ⟨(some 56), .indexA 1 (.t 54) (.t 55), none⟩,
      ⟨(some 57), .load 1 false (.t 56), none⟩,
      ⟨(some 58), .bin .geq (.t 57) (.c (.int .i64 4)), none⟩,
      ⟨(some 59), .mov (.t 58), none⟩,
      ⟨(some 60), .mov (.t 0), (some (59, true))⟩,
      ⟨(some 61), .mov (.t 9), (some (59, true))⟩,
      ⟨(some 62), .indexA 1 (.t 60) (.t 61), (some (59, true))⟩,
      ⟨(some 63), .load 1 false (.t 62), (some (59, true))⟩,
      ⟨(some 64), .bin .leq (.t 63) (.c (.int .i64 6)), (some (59, true))⟩,
      ⟨(some 65), .pick (.t 59) (.t 64) (.c (.bool false)), none⟩])
    (.keep [0, 1, 6, 8, 9, 10, 65] (.cond (.t 65)
      (.reg [⟨(some 66), .mov (.t 8), none⟩,
      ⟨(some 67), .mov (.t 0), none⟩,
      ⟨(some 68), .mov (.t 9), none⟩,
      ⟨(some 69), .indexA 1 (.t 67) (.t 68), none⟩,
      ⟨(some 70), .load 1 false (.t 69), none⟩,
      ⟨(some 71), .mov (.t 10), none⟩,
      ⟨(some 72), .build [.int .i64 0, .int .i64 0, .str [], .str [], .sl none 1 0 (some 0)] [(0, 1, (.t 70)), (1, 1, (.t 71))], none⟩,
      ⟨(some 73), .bslice 5 1 [.int .i64 0, .int .i64 0, .str [], .str [], .sl none 1 0 (some 0)] [(0, 5, (.t 72))], none⟩,
      ⟨(some 74), .append 5 72 (.t 66) (.t 73), none⟩,
      ⟨(some 8), .mov (.t 74), none⟩])
      (.skip)))))))))))
  (.keep [0, 1, 6, 8, 9] (.reg [⟨(some 35), .mov (.t 9), none⟩,
      ⟨(some 36), .bin .add (.t 35) (.c (.int .i64 1)), none⟩,
      ⟨(some 9), .mov (.t 36), none⟩])))))
def c6 : ACode :=
  .seq (.reg [⟨(some 4), .mov (.c (.bool false)), none⟩])
  (.keep [0, 1] (.seq (.reg [⟨(some 11), .callF 9 [], none⟩,
      ⟨(some 5), .mov (.t 11), none⟩])
  (.keep [0, 1, 5] (.seq (.seq (.reg [⟨(some 12), .mov (.t 0), none⟩,
      ⟨(some 13), .len false (.t 12), none⟩,
      ⟨(some 14), .bin .gtr (.t 13) (.c (.int .i64 40)), none⟩,
      ⟨(some 15), .mov (.t 14), none⟩,
      ⟨(some 16), .mov (.t 5), (some (15, false))⟩,
      ⟨(some 17), .not (.t 16), (some (15, false))⟩,
      ⟨(some 18), .pick (.t 15) (.c (.bool true)) (.t 17), none⟩])
  (.keep [0, 1, 5, 18] (.cond (.t 18)
    (.seq (.reg [⟨(some 19), .mov (.t 5), none⟩,
      ⟨(some 4), .mov (.t 19), none⟩])
    (.ret))
    (.skip))))
  (.keep [0, 1] (.seq (.reg [⟨(some 21), .build [.sl none 2 0 (some 0), .sl none 7 0 (some 0)] [], none⟩,
      ⟨(some 22), .callF 10 [(.t 21)], none⟩,
      ⟨(some 20), .mov (.t 22), none⟩,
      ⟨(some 23), .extract (.t 20) 0, none⟩,
      ⟨(some 24), .extract (.t 20) 1, none⟩,
      ⟨(some 6), .mov (.t 23), none⟩,
      ⟨(some 7), .mov (.t 24), none⟩])
  (.keep [0, 1, 6, 7] (.seq (.seq (.reg [⟨(some 25), .mov (.t 6), none⟩,
      ⟨(some 26), .eq false .ptr (.t 25) (.c (.ptr none)), none⟩,
      ⟨(some 27), .mov (.t 26), none⟩,
      ⟨(some 28), .mov (.t 7), (some (27, false))⟩,
      ⟨(some 29), .eq true .ifc (.t 28) (.c (.nilI)), (some (27, false))⟩,
      ⟨(some 30), .pick (.t 27) (.c (.bool true)) (.t 29), none⟩])
  (.keep [0, 1, 6, 30] (.cond (.t 30)
    (.seq (.reg [⟨(some 4), .mov (.c (.bool false)), none⟩])
    (.ret))
    (.skip))))
  (.keep [0, 1, 6] (.seq (.reg [⟨(some 8), .mov (.c (.sl none 1 0 (some 0))), none⟩])
  (.keep [0, 1, 6, 8] (.seq (.seq (.reg [⟨(some 9), .mov (.c (.int .i64 0)), none⟩])
  (.keep [0, 1, 6, 8, 9] (.block 0 (.loop c6l0))))
  (.keep [6, 8] (.seq (.reg [⟨(some 75), .mov (.t 6), none⟩,
      ⟨(some 76), .nilchk (.t 75), none⟩,
      ⟨(some 77), .fieldA 0 (.t 76), none⟩,
      ⟨(some 78), .callF 16 [(.t 77)], none⟩,
      ⟨(some 79), .mov (.t 8), none⟩,
      ⟨(some 80), .callF 21 [(.t 78), (.t 79)], none⟩,
      ⟨(some 81), .mov (.t 80), none⟩,
      ⟨(some 82), .mov (.t 6), (some (81, true))⟩,
      ⟨(some 83), .nilchk (.t 82), (some (81, true))⟩,
      ⟨(some 84), .fieldA 0 (.t 83), (some (81, true))⟩,
      ⟨(some 85), .callF 16 [(.t 84)], (some (81, true))⟩,
      ⟨(some 86), .callF 22 [(.t 85)], (some (81, true))⟩,
      ⟨(some 87), .len false (.t 86), (some (81, true))⟩,
      ⟨(some 88), .bin .eql (.t 87) (.c (.int .i64 0)), (some (81, true))⟩,
      ⟨(some 89), .pick (.t 81) (.t 88) (.c (.bool false)), none⟩,
      ⟨(some 90), .mov (.t 89), none⟩,
      ⟨(some 91), .mov (.t 6), (some (90, true))⟩,
      ⟨(some 92), .nilchk (.t 91), (some (90, true))⟩,
      ⟨(some 93), .fieldA 0 (.t 92), (some (90, true))⟩,
      ⟨(some 94), .callF 23 [(.t 93)], (some (90, true))⟩,
      ⟨(some 95), .mov (.t 8), (some (90, true))⟩,
      ⟨(some 96), .len false (.t 95), (some (90, true))⟩,
      ⟨(some 97), .bin .eql (.t 94) (.t 96), (some (90, true))⟩,
      ⟨(some 98), .pick (.t 90) (.t 97) (.c (.bool false)), none⟩,
      ⟨(some 4), .mov (.t 98), none⟩])
  (.ret)))))))))))))))
def a6 : AFun := ⟨2, c6, [.tmp 4]⟩

/- patois/patoislaw4.KernelBegins -/
def c8l0 : ACode :=
  .keep [0, 1, 2, 8] (.seq (.seq (.reg [⟨(some 25), .mov (.t 8), none⟩,
      ⟨(some 26), .mov (.t 0), none⟩,
      ⟨(some 27), .len false (.t 26), none⟩,
      ⟨(some 28), .mov (.t 1), none⟩,
      ⟨(some 29), .len false (.t 28), none⟩,
      ⟨(some 30), .bin .add (.t 27) (.t 29), none⟩,
      ⟨(some 31), .bin .lss (.t 25) (.t 30), none⟩])
  (.keep [0, 1, 2, 8, 31] (.cond (.t 31)
    (.skip)
    (.exit 0))))
  (.keep [0, 1, 2, 8] (.seq (.block 1 (.seq (.reg [⟨(some 9), .alloc [.int .i64 0, .int .i64 0, .str [], .str [], .sl none 1 0 (some 0)], none⟩])
    (.keep [0, 1, 2, 8, 9] (.seq (.seq (.reg [⟨(some 34), .mov (.t 8), none⟩,
      ⟨(some 35), .mov (.t 0), none⟩,
      ⟨(some 36), .len false (.t 35), none⟩,
      ⟨(some 37), .bin .lss (.t 34) (.t 36), none⟩])
    (.keep [0, 1, 2, 8, 9, 37] (.cond (.t 37)
      (.reg [⟨(some 38), .mov (.t 0), none⟩,
      ⟨(some 39), .mov (.t 8), none⟩,
      ⟨(some 40), .indexA 5 (.t 38) (.t 39), none⟩,
      ⟨(some 41), .load 5 true (.t 40), none⟩,
      ⟨none, .store 5 (.t 9) (.t 41), none⟩])
      (.reg [⟨(some 42), .mov (.t 1), none⟩,
      ⟨(some 43), .mov (.t 8), none⟩,
      ⟨(some 44), .mov (.t 0), none⟩,
      ⟨(some 45), .len false (.t 44), none⟩,
      ⟨(some 46), .bin .sub (.t 43) (.t 45), none⟩,
      ⟨(some 47), .indexA 5 (.t 42) (.t 46), none⟩,
      ⟨(some 48), .load 5 true (.t 47), none⟩,
      ⟨none, .store 5 (.t 9) (.t 48), none⟩]))))
    (.keep [0, 1, 2, 8, 9] (.seq (.reg [⟨(some 49), .fieldA 4 (.t 9), none⟩,
      ⟨(some 50), .load 1 false (.t 49), none⟩,
      ⟨(some 51), .len false (.t 50), none⟩,
      ⟨(some 52), .bin .gtr (.t 51) (.c (.int .i64 30)), none⟩,
      ⟨(some 53), .mov (.t 52), none⟩,
      ⟨(some 54), .fieldA 2 (.t 9), (some (53, false))⟩,
      ⟨(some 55), .load 1 false (.t 54), (some (53, false))⟩,
      ⟨(some 56), .len true (.t 55), (some (53, false))⟩,
      ⟨(some 57), .fieldA 3 (.t 9), (some (53, false))⟩,
      ⟨(some 58), .load 1 false (.t 57), (some (53, false))⟩,
      ⟨(some 59), .len true (.t 58), (some (53, false))⟩,
      ⟨(some 60), .bin .add (.t 56) (.t 59), (some (53, false))⟩,
      ⟨(some 61), .bin .gtr (.t 60) (.c (.int .i64 3000)), (some (53, false))⟩,
      ⟨(some 62), .pick (.t 53) (.c (.bool true)) (.t 61), none⟩])
    (.keep [0, 1, 2, 8, 62] (.cond (.t 62)
      (.seq (.reg [⟨(some 6), .mov (.c (.bool true)), none⟩])
      (.ret))
      (.skip)))))))))
  (.keep [0, 1, 2, 8] (.reg [⟨(some 32), .mov (.t 8), none⟩,
      ⟨(some 33), .bin .add (.t 32) (.c (.int .i64 1)), none⟩,
      ⟨(some 8), .mov (.t 33), none⟩])))))
def c8 : ACode :=
  .seq (.reg [⟨(some 6), .mov (.c (.bool false)), none⟩])
  (.keep [0, 1, 2] (.seq (.reg [⟨(some 11), .callF 9 [], none⟩,
      ⟨(some 7), .mov (.t 11), none⟩])
  (.keep [0, 1, 2, 7] (.seq (.seq (.reg [⟨(some 12), .mov (.t 0), none⟩,
      ⟨(some 13), .len false (.t 12), none⟩,
      ⟨(some 14), .bin .gtr (.t 13) (.c (.int .i64 60)), none⟩,
      ⟨(some 15), .mov (.t 14), none⟩,
      ⟨(some 16), .mov (.t 1), (some (15, false))⟩,
      ⟨(some 17), .len false (.t 16), (some (15, false))⟩,
      ⟨(some 18), .bin .gtr (.t 17) (.c (.int .i64 60)), (some (15, false))⟩,
      ⟨(some 19), .pick (.t 15) (.c (.bool true)) (.t 18), none⟩,
      ⟨(some 20), .mov (.t 19), none⟩,
      ⟨(some 21), .mov (.t 7), (some (20, false))⟩,
      ⟨(some 22), .not (.t 21), (some (20, false))⟩,
      ⟨(some 23), .pick (.t 20) (.c (.bool true)) (.t 22), none⟩])
  (.keep [0, 1, 2, 7, 23] (.cond (.t 23)
    (.seq (.reg [⟨(some 24), .mov (.t 7), none⟩,
      ⟨(some 6), .mov (.t 24), none⟩])
    (.ret))
    (.skip))))
  (.keep [0, 1, 2] (.seq (.seq (.reg [⟨(some 8), .mov (.c (.int .i64 0)), none⟩])
  (.keep [0, 1, 2, 8] (.block 0 (.loop c8l0))))
  (.keep [0, 1, 2] (.seq (.reg [⟨(some 63), .mov (.t 2), none⟩,
      ⟨(some 64), .bin .and (.t 63) (.c (.int .i64 63)), none⟩,
      ⟨(some 65), .mov (.t 0), none⟩,
      ⟨(some 66), .len false (.t 65), none⟩,
      ⟨(some 67), .minmax false (.t 64) (.t 66), none⟩,
      ⟨(some 2), .mov (.t 67), none⟩])
  (.keep [0, 1, 2] (.seq (.reg [⟨(some 68), .mov (.t 0), none⟩,
      ⟨(some 69), .callF 22 [(.t 68)], none⟩,
      ⟨(some 10), .mov (.t 69), none⟩])
  (.keep [0, 1, 2, 10] (.seq (.reg [⟨(some 70), .mov (.t 0), none⟩,
      ⟨(some 71), .mov (.t 1), none⟩,
      ⟨(some 72), .callF 37 [(.t 70), (.t 71)], none⟩,
      ⟨(some 73), .mov (.t 0), none⟩,
      ⟨(some 74), .mov (.t 1), none⟩,
      ⟨(some 75), .callF 38 [(.t 73), (.t 74)], none⟩,
      ⟨(some 76), .eq false .bool (.t 72) (.t 75), none⟩,
      ⟨(some 77), .mov (.t 76), none⟩,
      ⟨(some 78), .mov (.t 0), (some (77, true))⟩,
      ⟨(some 79), .mov (.t 2), (some (77, true))⟩,
      ⟨(some 80), .slc 5 (.t 78) none (some (.t 79)), (some (77, true))⟩,
      ⟨(some 81), .mov (.t 0), (some (77, true))⟩,
      ⟨(some 82), .callF 37 [(.t 80), (.t 81)], (some (77, true))⟩,
      ⟨(some 83), .pick (.t 77) (.t 82) (.c (.bool false)), none⟩,
      ⟨(some 84), .mov (.t 83), none⟩,
      ⟨(some 85), .mov (.t 0), (some (84, true))⟩,
      ⟨(some 86), .mov (.t 1), (some (84, true))⟩,
      ⟨(some 87), .callF 39 [(.t 85), (.t 86)], (some (84, true))⟩,
      ⟨(some 88), .mov (.t 0), (some (84, true))⟩,
      ⟨(some 89), .mov (.t 1), (some (84, true))⟩,
      ⟨(some 90), .callF 21 [(.t 88), (.t 89)], (some (84, true))⟩,
      ⟨(some 91), .eq false .bool (.t 87) (.t 90), (some (84, true))⟩,
      ⟨(some 92), .pick (.t 84) (.t 91) (.c (.bool false)), none⟩,
      ⟨(some 93), .mov (.t 92), none⟩,
      ⟨(some 94), .mov (.t 10), (some (93, true))⟩,
      ⟨(some 95), .mov (.t 0), (some (93, true))⟩,
      ⟨(some 96), .callF 36 [(.t 95)], (some (93, true))⟩,
      ⟨(some 97), .callF 21 [(.t 94), (.t 96)], (some (93, true))⟩,
      ⟨(some 98), .pick (.t 93) (.t 97) (.c (.bool false)), none⟩,
      ⟨(some 99), .mov (.t 98), none⟩,
      ⟨(some 100), .mov (.t 10), (some (99, true))⟩,
      ⟨(some 101), .callF 22 [(.t 100)], (some (99, true))⟩,
      ⟨(some 102), .mov (.t 10), (some (99, true))⟩,
      ⟨(some 103), .callF 39 [(.t 101), (.t 102)], (some (99, true))⟩,
      ⟨(some 104), .pick (.t 99) (.t 103) (.c (.bool false)), none⟩,
      ⟨(some 105), .mov (.t 104), none⟩,
      ⟨(some 106), .mov (.t 0), (some (105, true))⟩,
      ⟨(some 107), .callF 37 [(.c (.sl none 1 0 (some 0))), (.t 106)], (some (105, true))⟩,
      ⟨(some 108), .pick (.t 105) (.t 107) (.c (.bool false)), none⟩,
      ⟨(some 6), .mov (.t 108), none⟩])
  (.ret)))))))))))))
def a8 : AFun := ⟨3, c8, [.tmp 6]⟩

/- patois/patoislaw4.first -/
def c9 : ACode :=
  .seq (.reg [⟨(some 0), .mov (.c (.bool false)), none⟩])
  (.keep [] (.seq (.reg [⟨(some 17), .build [.str [], .str []] [(0, 1, (.c (.str [102]))), (1, 1, (.c (.str [120])))], none⟩,
      ⟨(some 18), .bslice 2 1 [.str [], .str []] [(0, 2, (.t 17))], none⟩,
      ⟨(some 19), .build [.str [], .sl none 1 0 (some 0), .bool false, .bool false, .bool false, .str [], .int .i64 0] [(0, 1, (.c (.str [117, 112]))), (2, 1, (.c (.bool true))), (3, 1, (.c (.bool true))), (4, 1, (.c (.bool true))), (5, 1, (.c (.str [58])))], none⟩,
      ⟨(some 20), .bslice 7 1 [.str [], .sl none 1 0 (some 0), .bool false, .bool false, .bool false, .str [], .int .i64 0] [(0, 7, (.t 19))], none⟩,
      ⟨(some 21), .build [.sl none 2 0 (some 0), .sl none 7 0 (some 0)] [(0, 1, (.t 18)), (1, 1, (.t 20))], none⟩,
      ⟨(some 22), .callF 10 [(.t 21)], none⟩,
      ⟨(some 16), .mov (.t 22), none⟩,
      ⟨(some 23), .extract (.t 16) 0, none⟩,
      ⟨(some 24), .extract (.t 16) 1, none⟩,
      ⟨(some 1), .mov (.t 23), none⟩,
      ⟨(some 2), .mov (.t 24), none⟩])
  (.keep [1, 2] (.seq (.seq (.reg [⟨(some 25), .mov (.t 1), none⟩,
      ⟨(some 26), .eq false .ptr (.t 25) (.c (.ptr none)), none⟩,
      ⟨(some 27), .mov (.t 26), none⟩,
      ⟨(some 28), .mov (.t 2), (some (27, false))⟩,
      ⟨(some 29), .eq true .ifc (.t 28) (.c (.nilI)), (some (27, false))⟩,
      ⟨(some 30), .pick (.t 27) (.c (.bool true)) (.t 29), none⟩])
  (.keep [1, 30] (.cond (.t 30)
    (.seq (.reg [⟨(some 0), .mov (.c (.bool false)), none⟩])
    (.ret))
    (.skip))))
  (.keep [1] (.seq (.reg [⟨(some 32), .mov (.t 1), none⟩,
      ⟨(some 33), .bslice 1 1 [.str []] [(0, 1, (.c (.str [97])))], none⟩,
      ⟨(some 34), .callF 15 [(.t 32), (.c (.str [117, 112])), (.c (.str [104, 105])), (.t 33)], none⟩,
      ⟨(some 31), .mov (.t 34), none⟩,
      ⟨(some 35), .extract (.t 31) 0, none⟩,
      ⟨(some 36), .extract (.t 31) 1, none⟩,
      ⟨(some 37), .extract (.t 31) 2, none⟩,
      ⟨(some 3), .mov (.t 35), none⟩,
      ⟨(some 4), .mov (.t 36), none⟩,
      ⟨(some 5), .mov (.t 37), none⟩])
  (.keep [1, 3, 4, 5] (.seq (.reg [⟨(some 39), .mov (.t 1), none⟩,
      ⟨(some 40), .callF 15 [(.t 39), (.c (.str [110, 111])), (.c (.str [104, 105])), (.c (.sl none 1 0 (some 0)))], none⟩,
      ⟨(some 38), .mov (.t 40), none⟩,
      ⟨(some 41), .extract (.t 38) 0, none⟩,
      ⟨(some 42), .extract (.t 38) 1, none⟩,
      ⟨(some 43), .extract (.t 38) 2, none⟩,
      ⟨(some 6), .mov (.t 41), none⟩,
      ⟨(some 7), .mov (.t 42), none⟩,
      ⟨(some 8), .mov (.t 43), none⟩])
  (.keep [1, 3, 4, 5, 7, 8] (.seq (.reg [⟨(some 45), .mov (.t 1), none⟩,
      ⟨(some 46), .callF 11 [(.t 45), (.c (.str [102])), (.c (.int .i64 1))], none⟩,
      ⟨(some 44), .mov (.t 46), none⟩,
      ⟨(some 47), .extract (.t 44) 0, none⟩,
      ⟨(some 48), .extract (.t 44) 1, none⟩,
      ⟨(some 9), .mov (.t 47), none⟩,
      ⟨(some 10), .mov (.t 48), none⟩])
  (.keep [1, 3, 4, 5, 7, 8, 9, 10] (.seq (.reg [⟨(some 50), .mov (.t 1), none⟩,
      ⟨(some 51), .callF 11 [(.t 50), (.c (.str [103])), (.c (.int .i64 1))], none⟩,
      ⟨(some 49), .mov (.t 51), none⟩,
      ⟨(some 52), .extract (.t 49) 0, none⟩,
      ⟨(some 53), .extract (.t 49) 1, none⟩,
      ⟨(some 11), .mov (.t 52), none⟩,
      ⟨(some 12), .mov (.t 53), none⟩])
  (.keep [1, 3, 4, 5, 7, 8, 9, 10, 12] (.seq (.reg [⟨(some 55), .mov (.t 1), none⟩,
      ⟨(some 56), .callF 11 [(.t 55), (.c (.str [103])), (.c (.int .i64 2))], none⟩,
      ⟨(some 54), .mov (.t 56), none⟩,
      ⟨(some 57), .extract (.t 54) 0, none⟩,
      ⟨(some 58), .extract (.t 54) 1, none⟩,
      ⟨(some 13), .mov (.t 57), none⟩,
      ⟨(some 14), .mov (.t 58), none⟩])
  (.keep [1, 3, 4, 5, 7, 8, 9, 10, 12, 14] (.seq (.reg [⟨(some 59), .mov (.t 1), none⟩,
      ⟨(some 60), .callF 12 [(.t 59), (.c (.str [103])), (.c (.str [121]))], none⟩,
      ⟨(some 15), .mov (.t 60), none⟩])
  (.keep [1, 3, 4, 5, 7, 8, 9, 10, 12, 14, 15] (.seq (.reg [⟨(some 61), .mov (.t 3), none⟩,
      ⟨(some 62), .bin .eql (.t 61) (.c (.str [58, 104, 105])), none⟩,
      ⟨(some 63), .mov (.t 62), none⟩,
      ⟨(some 64), .mov (.t 4), (some (63, true))⟩,
      ⟨(some 65), .bin .eql (.t 64) (.c (.int .i64 0)), (some (63, true))⟩,
      ⟨(some 66), .pick (.t 63) (.t 65) (.c (.bool false)), none⟩,
      ⟨(some 67), .mov (.t 66), none⟩,
      ⟨(some 68), .mov (.t 5), (some (67, true))⟩,
      ⟨(some 69), .pick (.t 67) (.t 68) (.c (.bool false)), none⟩,
      ⟨(some 70), .mov (.t 69), none⟩,
      ⟨(some 71), .mov (.t 7), (some (70, true))⟩,
      ⟨(some 72), .bin .eql (.t 71) (.c (.int .i64 127)), (some (70, true))⟩,
      ⟨(some 73), .pick (.t 70) (.t 72) (.c (.bool false)), none⟩,
      ⟨(some 74), .mov (.t 73), none⟩,
      ⟨(some 75), .mov (.t 8), (some (74, true))⟩,
      ⟨(some 76), .not (.t 75), (some (74, true))⟩,
      ⟨(some 77), .pick (.t 74) (.t 76) (.c (.bool false)), none⟩,
      ⟨(some 78), .mov (.t 77), none⟩,
      ⟨(some 79), .mov (.t 9), (some (78, true))⟩,
      ⟨(some 80), .bin .eql (.t 79) (.c (.str [120])), (some (78, true))⟩,
      ⟨(some 81), .pick (.t 78) (.t 80) (.c (.bool false)), none⟩,
      ⟨(some 82), .mov (.t 81), none⟩,
      ⟨(some 83), .mov (.t 10), (some (82, true))⟩,
      ⟨(some 84), .pick (.t 82) (.t 83) (.c (.bool false)), none⟩,
      ⟨(some 85), .mov (.t 84), none⟩,
      ⟨(some 86), .mov (.t 12), (some (85, true))⟩,
      ⟨(some 87), .not (.t 86), (some (85, true))⟩,
      ⟨(some 88), .pick (.t 85) (.t 87) (.c (.bool false)), none⟩,
      ⟨(some 89), .mov (.t 88), none⟩,
      ⟨(some 90), .mov (.t 14), (some (89, true))⟩,
      ⟨(some 91), .pick (.t 89) (.t 90) (.c (.bool false)), none⟩,
      ⟨(some 92), .mov (.t 91), none⟩,
      ⟨(some 93), .mov (.t 15), (some (92, true))⟩,
      ⟨(some 94), .eq false .ifc (.t 93) (.c (.nilI)), (some (92, true))⟩,
      ⟨(some 95), .pick (.t 92) (.t 94) (.c (.bool false)), none⟩,
      ⟨(some 96), .mov (.t 95), none⟩,
      ⟨(some 97), .mov (.t 1), (some (96, true))⟩,
      ⟨(some 98), .callF 17 [(.t 97)], (some (96, true))⟩,
      ⟨(some 99), .build [.str [], .str []] [(0, 1, (.c (.str [102]))), (1, 1, (.c (.str [120])))], (some (96, true))⟩,
      ⟨(some 100), .build [.str [], .str []] [(0, 1, (.c (.str [103]))), (1, 1, (.c (.str [121])))], (some (96, true))⟩,
      ⟨(some 101), .bslice 2 2 [.str [], .str [], .str [], .str []] [(0, 2, (.t 99)), (2, 2, (.t 100))], (some (96, true))⟩,
      ⟨(some 102), .callF 34 [(.t 98), (.t 101)], (some (96, true))⟩,
      ⟨(some 103), .pick (.t 96) (.t 102) (.c (.bool false)), none⟩,
      ⟨(some 104), .mov (.t 103), none⟩,
      ⟨(some 105), .mov (.t 1), (some (104, true))⟩,
      ⟨(some 106), .nilchk (.t 105), (some (104, true))⟩,
      ⟨(some 107), .fieldA 0 (.t 106), (some (104, true))⟩,
      ⟨(some 108), .callF 23 [(.t 107)], (some (104, true))⟩,
      ⟨(some 109), .bin .eql (.t 108) (.c (.int .i64 6)), (some (104, true))⟩,
      ⟨(some 110), .pick (.t 104) (.t 109) (.c (.bool false)), none⟩,
      ⟨(some 111), .mov (.t 110), none⟩,
      ⟨(some 112), .mov (.t 1), (some (111, true))⟩,
      ⟨(some 113), .callF 19 [(.t 112), (.c (.str [117, 112])), (.c (.sl none 1 0 (some 0)))], (some (111, true))⟩,
      ⟨(some 114), .pick (.t 111) (.t 113) (.c (.bool false)), none⟩,
      ⟨(some 115), .mov (.t 114), none⟩,
      ⟨(some 116), .mov (.t 1), (some (115, true))⟩,
      ⟨(some 117), .callF 19 [(.t 116), (.c (.str [110, 111])), (.c (.sl none 1 0 (some 0)))], (some (115, true))⟩,
      ⟨(some 118), .not (.t 117), (some (115, true))⟩,
      ⟨(some 119), .pick (.t 115) (.t 118) (.c (.bool false)), none⟩,
      ⟨(some 0), .mov (.t 119), none⟩])
  (.ret)))))))))))))))))))
def a9 : AFun := ⟨0, c9, [.tmp 0]⟩

/- patois/world.New -/
def c10l0 : ACode :=
  .keep [5, 24, 25, 26] (.seq (.reg [⟨(some 27), .bin .lss (.t 26) (.t 25), none⟩])
  (.keep [5, 24, 25, 26, 27] (.seq (.cond (.t 27)
    (.skip)
    (.exit 0))
  (.keep [5, 24, 25, 26] (.seq (.block 1 (.seq (.reg [⟨(some 28), .indexA 7 (.t 24) (.t 26), none⟩,
      ⟨(some 29), .load 7 true (.t 28), none⟩,
      ⟨(some 7), .alloc [.str [], .sl none 1 0 (some 0), .bool false, .bool false, .bool false, .str [], .int .i64 0], none⟩,
      ⟨none, .store 7 (.t 7) (.t 29), none⟩])
    (.keep [5, 7, 24, 25, 26] (.seq (.reg [⟨(some 30), .fieldA 1 (.t 7), none⟩,
      ⟨(some 31), .load 1 false (.t 30), none⟩,
      ⟨(some 32), .callF 43 [(.t 31)], none⟩,
      ⟨(some 33), .fieldA 1 (.t 7), none⟩,
      ⟨none, .store 1 (.t 33) (.t 32), none⟩])
    (.keep [5, 7, 24, 25, 26] (.dreg [⟨0, ⟨(some 34), .mov (.t 5), none⟩, [], []⟩,
      ⟨1, ⟨(some 35), .mov (.t 5), none⟩, [], []⟩,
      ⟨2, ⟨(some 36), .nilchk (.t 35), none⟩, [1], []⟩,
      ⟨3, ⟨(some 37), .fieldA 2 (.t 36), none⟩, [1, 2], []⟩,
      ⟨4, ⟨(some 38), .load 1 false (.t 37), none⟩, [1, 2, 3], []⟩,
      ⟨5, ⟨(some 39), .load 7 true (.t 7), none⟩, [], []⟩,
      ⟨6, ⟨(some 40), .bslice 7 1 [.str [], .sl none 1 0 (some 0), .bool false, .bool false, .bool false, .str [], .int .i64 0] [(0, 7, (.t 39))], none⟩, [5], []⟩,
      ⟨7, ⟨(some 41), .append 7 72 (.t 38) (.t 40), none⟩, [1, 2, 3, 4, 5, 6], []⟩,
      ⟨8, ⟨(some 42), .nilchk (.t 34), none⟩, [0, 1, 2, 3, 4, 5, 6, 7], []⟩,
      ⟨9, ⟨(some 43), .fieldA 2 (.t 42), none⟩, [0, 1, 2, 3, 4, 5, 6, 7, 8], []⟩,
      ⟨10, ⟨none, .store 1 (.t 43) (.t 41), none⟩, [0, 1, 2, 3, 4, 5, 6, 7, 8, 9], []⟩]))))))
  (.keep [5, 24, 25, 26] (.reg [⟨(some 44), .bin .add (.t 26) (.c (.int .i64 1)), none⟩,
      ⟨(some 26), .mov (.t 44), none⟩])))))))
def c10 : ACode :=
  .seq (.reg [⟨(some 1), .box (.t 0), none⟩,
      ⟨(some 2), .mov (.c (.ptr none)), none⟩,
      ⟨(some 3), .mov (.c (.nilI)), none⟩])
  (.keep [1] (.seq (.seq (.reg [⟨(some 8), .load 2 true (.t 1), none⟩,
      ⟨(some 9), .callF 27 [(.t 8)], none⟩,
      ⟨(some 4), .mov (.t 9), none⟩])
  (.keep [1, 4] (.seq (.reg [⟨(some 10), .mov (.t 4), none⟩,
      ⟨(some 11), .eq true .ifc (.t 10) (.c (.nilI)), none⟩])
  (.keep [1, 4, 11] (.cond (.t 11)
    (.seq (.reg [⟨(some 12), .mov (.t 4), none⟩,
      ⟨(some 2), .mov (.c (.ptr none)), none⟩,
      ⟨(some 3), .mov (.t 12), none⟩])
    (.ret))
    (.skip))))))
  (.keep [1] (.seq (.reg [⟨(some 13), .fieldA 0 (.t 1), none⟩,
      ⟨(some 14), .load 1 false (.t 13), none⟩,
      ⟨(some 15), .callF 40 [(.t 14)], none⟩,
      ⟨(some 16), .build [.sl none 5 0 (some 0), .sl none 2 0 (some 0), .sl none 7 0 (some 0)] [(1, 1, (.t 15))], none⟩,
      ⟨(some 17), .box (.t 16), none⟩,
      ⟨(some 5), .mov (.t 17), none⟩])
  (.keep [1, 5] (.seq (.reg [⟨(some 18), .mov (.t 5), none⟩,
      ⟨(some 19), .nilchk (.t 18), none⟩,
      ⟨(some 20), .fieldA 1 (.t 19), none⟩,
      ⟨(some 21), .load 1 false (.t 20), none⟩,
      ⟨(some 22), .callF 41 [(.t 21), (.f 42)], none⟩])
  (.keep [1, 5] (.seq (.seq (.reg [⟨(some 23), .fieldA 1 (.t 1), none⟩,
      ⟨(some 24), .load 1 false (.t 23), none⟩,
      ⟨(some 25), .len false (.t 24), none⟩,
      ⟨(some 26), .mov (.c (.int .i64 0)), none⟩])
  (.keep [5, 24, 25, 26] (.block 0 (.loop c10l0))))
  (.keep [5] (.seq (.reg [⟨(some 45), .mov (.t 5), none⟩,
      ⟨(some 2), .mov (.t 45), none⟩,
      ⟨(some 3), .mov (.c (.nilI)), none⟩])
  (.ret)))))))))))
def a10 : AFun := ⟨1, c10, [.tmp 2, .tmp 3]⟩

/- (*patois/world.Kernel).Open -/
def c11 : ACode :=
  .seq (.reg [⟨(some 6), .mov (.c (.str [])), none⟩,
      ⟨(some 7), .mov (.c (.bool false)), none⟩])
  (.keep [0, 1, 2] (.seq (.reg [⟨(some 8), .mov (.c (.str [])), none⟩])
  (.keep [0, 1, 2, 8] (.seq (.seq (.reg [⟨(some 12), .mov (.t 2), none⟩])
  (.keep [0, 1, 2, 8, 12] (.block 0 (.seq (.reg [⟨(some 14), .bin .eql (.t 12) (.c (.int .i64 1)), none⟩,
      ⟨(some 13), .mov (.t 14), none⟩])
    (.keep [0, 1, 2, 8, 12, 13] (.cond (.t 13)
      (.seq (.reg [⟨(some 16), .mov (.t 0), none⟩,
      ⟨(some 17), .mov (.t 1), none⟩,
      ⟨(some 18), .callF 44 [(.t 16), (.t 17)], none⟩,
      ⟨(some 15), .mov (.t 18), none⟩,
      ⟨(some 19), .extract (.t 15) 0, none⟩,
      ⟨(some 20), .extract (.t 15) 1, none⟩,
      ⟨(some 9), .mov (.t 19), none⟩,
      ⟨(some 10), .mov (.t 20), none⟩])
      (.keep [0, 1, 2, 9, 10] (.seq (.seq (.reg [⟨(some 21), .mov (.t 10), none⟩,
      ⟨(some 22), .not (.t 21), none⟩])
      (.keep [0, 1, 2, 9, 22] (.cond (.t 22)
        (.seq (.reg [⟨(some 23), .mov (.t 0), none⟩,
      ⟨(some 24), .nilchk (.t 23), none⟩,
      ⟨(some 25), .fieldA 0 (.t 24), none⟩,
      ⟨(some 26), .mov (.t 1), none⟩,
      ⟨(some 27), .build [.int .i64 0, .int .i64 0, .str [], .str [], .sl none 1 0 (some 0)] [(0, 1, (.c (.int .i64 2))), (1, 1, (.c (.int .i64 4))), (2, 1, (.t 26))], none⟩,
      ⟨(some 28), .callF 45 [(.t 25), (.t 27)], none⟩])
        (.keep [] (.seq (.reg [⟨(some 6), .mov (.c (.str [])), none⟩,
      ⟨(some 7), .mov (.c (.bool false)), none⟩])
        (.ret))))
        (.skip))))
      (.keep [0, 1, 2, 9] (.reg [⟨(some 29), .mov (.t 0), none⟩,
      ⟨(some 30), .nilchk (.t 29), none⟩,
      ⟨(some 31), .fieldA 1 (.t 30), none⟩,
      ⟨(some 32), .load 1 false (.t 31), none⟩,
      ⟨(some 33), .mov (.t 9), none⟩,
      ⟨(some 34), .indexA 2 (.t 32) (.t 33), none⟩,
      ⟨(some 35), .fieldA 1 (.t 34), none⟩,
      ⟨(some 36), .load 1 false (.t 35), none⟩,
      ⟨(some 8), .mov (.t 36), none⟩])))))
      (.seq (.reg [⟨(some 38), .bin .eql (.t 12) (.c (.int .i64 2)), none⟩,
      ⟨(some 37), .mov (.t 38), none⟩])
      (.keep [0, 1, 2, 8, 12, 37] (.cond (.t 37)
        (.seq (.reg [⟨(some 39), .mov (.t 0), none⟩,
      ⟨(some 40), .mov (.t 1), none⟩,
      ⟨(some 41), .callF 46 [(.t 39), (.t 40)], none⟩,
      ⟨(some 11), .mov (.t 41), none⟩])
        (.keep [0, 1, 2, 8, 11] (.reg [⟨(some 42), .mov (.t 0), none⟩,
      ⟨(some 43), .nilchk (.t 42), none⟩,
      ⟨(some 44), .fieldA 1 (.t 43), none⟩,
      ⟨(some 45), .load 1 false (.t 44), none⟩,
      ⟨(some 46), .mov (.t 11), none⟩,
      ⟨(some 47), .indexA 2 (.t 45) (.t 46), none⟩,
      ⟨(some 48), .fieldA 1 (.t 47), none⟩,
      ⟨none, .store 1 (.t 48) (.c (.str [])), none⟩])))
        (.seq (.reg [⟨(some 50), .bin .eql (.t 12) (.c (.int .i64 3)), none⟩,
      ⟨(some 49), .mov (.t 50), none⟩])
        (.keep [0, 1, 2, 8, 49] (.cond (.t 49)
          (.reg [⟨(some 51), .mov (.t 0), none⟩,
      ⟨(some 52), .mov (.t 1), none⟩,
      ⟨(some 53), .callF 46 [(.t 51), (.t 52)], none⟩])
          (.seq (.reg [⟨(some 6), .mov (.c (.str [])), none⟩,
      ⟨(some 7), .mov (.c (.bool false)), none⟩])
          (.ret))))))))))))))
  (.keep [0, 1, 2, 8] (.seq (.reg [⟨(some 54), .mov (.t 0), none⟩,
      ⟨(some 55), .nilchk (.t 54), none⟩,
      ⟨(some 56), .fieldA 0 (.t 55), none⟩,
      ⟨(some 57), .mov (.t 2), none⟩,
      ⟨(some 58), .mov (.t 1), none⟩,
      ⟨(some 59), .build [.int .i64 0, .int .i64 0, .str [], .str [], .sl none 1 0 (some 0)] [(0, 1, (.c (.int .i64 2))), (1, 1, (.t 57)), (2, 1, (.t 58))], none⟩,
      ⟨(some 60), .callF 45 [(.t 56), (.t 59)], none⟩])
  (.keep [8] (.seq (.reg [⟨(some 61), .mov (.t 8), none⟩,
      ⟨(some 6), .mov (.t 61), none⟩,
      ⟨(some 7), .mov (.c (.bool true)), none⟩])
  (.ret)))))))))
def a11 : AFun := ⟨3, c11, [.tmp 6, .tmp 7]⟩

/- (*patois/world.Kernel).Write -/
def c12 : ACode :=
  .seq (.reg [⟨(some 6), .mov (.c (.nilI)), none⟩])
  (.keep [0, 1, 2] (.seq (.seq (.reg [⟨(some 9), .mov (.t 2), none⟩,
      ⟨(some 10), .bin .eql (.t 9) (.c (.str [])), none⟩])
  (.keep [0, 1, 2, 10] (.cond (.t 10)
    (.seq (.reg [⟨(some 6), .mov (.c (.nilI)), none⟩])
    (.ret))
    (.skip))))
  (.keep [0, 1, 2] (.seq (.seq (.reg [⟨(some 11), .mov (.t 1), none⟩,
      ⟨(some 12), .bin .neq (.t 11) (.c (.str [])), none⟩])
  (.keep [0, 1, 2, 12] (.cond (.t 12)
    (.seq (.reg [⟨(some 14), .mov (.t 0), none⟩,
      ⟨(some 15), .mov (.t 1), none⟩,
      ⟨(some 16), .callF 44 [(.t 14), (.t 15)], none⟩,
      ⟨(some 13), .mov (.t 16), none⟩,
      ⟨(some 17), .extract (.t 13) 0, none⟩,
      ⟨(some 18), .extract (.t 13) 1, none⟩,
      ⟨(some 7), .mov (.t 17), none⟩,
      ⟨(some 8), .mov (.t 18), none⟩])
    (.keep [0, 1, 2, 7, 8] (.seq (.seq (.reg [⟨(some 19), .mov (.t 2), none⟩,
      ⟨(some 20), .len true (.t 19), none⟩,
      ⟨(some 21), .bin .gtr (.t 20) (.c (.int .i64 16384)), none⟩,
      ⟨(some 22), .mov (.t 21), none⟩,
      ⟨(some 23), .mov (.t 8), (some (22, false))⟩,
      ⟨(some 24), .mov (.t 23), (some (22, false))⟩,
      ⟨(some 25), .mov (.t 2), (some (24, true))⟩,
      ⟨(some 26), .len true (.t 25), (some (24, true))⟩,
      ⟨(some 27), .mov (.t 0), (some (24, true))⟩,
      ⟨(some 28), .nilchk (.t 27), (some (24, true))⟩,
      ⟨(some 29), .fieldA 1 (.t 28), (some (24, true))⟩,
      ⟨(some 30), .load 1 false (.t 29), (some (24, true))⟩,
      ⟨(some 31), .mov (.t 7), (some (24, true))⟩,
      ⟨(some 32), .indexA 2 (.t 30) (.t 31), (some (24, true))⟩,
      ⟨(some 33), .fieldA 1 (.t 32), (some (24, true))⟩,
      ⟨(some 34), .load 1 false (.t 33), (some (24, true))⟩,
      ⟨(some 35), .len true (.t 34), (some (24, true))⟩,
      ⟨(some 36), .bin .sub (.c (.int .i64 16384)) (.t 35), (some (24, true))⟩,
      ⟨(some 37), .bin .gtr (.t 26) (.t 36), (some (24, true))⟩,
      ⟨(some 38), .pick (.t 24) (.t 37) (.c (.bool false)), (some (22, false))⟩,
      ⟨(some 39), .pick (.t 22) (.c (.bool true)) (.t 38), none⟩])
    (.keep [0, 1, 2, 39] (.cond (.t 39)
      (.seq (.reg [⟨(some 40), .load 1 false (.g 0), none⟩,
      ⟨(some 6), .mov (.t 40), none⟩])
      (.ret))
      (.skip))))
    (.keep [0, 1, 2] (.seq (.reg [⟨(some 41), .mov (.t 0), none⟩,
      ⟨(some 42), .mov (.t 1), none⟩,
      ⟨(some 43), .callF 46 [(.t 41), (.t 42)], none⟩,
      ⟨(some 7), .mov (.t 43), none⟩])
    (.keep [0, 1, 2, 7] (.reg [⟨(some 44), .mov (.t 0), none⟩,
      ⟨(some 45), .nilchk (.t 44), none⟩,
      ⟨(some 46), .fieldA 1 (.t 45), none⟩,
      ⟨(some 47), .load 1 false (.t 46), none⟩,
      ⟨(some 48), .mov (.t 7), none⟩,
      ⟨(some 49), .indexA 2 (.t 47) (.t 48), none⟩,
      ⟨(some 50), .fieldA 1 (.t 49), none⟩,
      ⟨(some 51), .load 1 false (.t 50), none⟩,
      ⟨(some 52), .mov (.t 2), none⟩,
      ⟨(some 53), .bin .add (.t 51) (.t 52), none⟩,
      ⟨(some 54), .indexA 2 (.t 47) (.t 48), none⟩,
      ⟨(some 55), .fieldA 1 (.t 54), none⟩,
      ⟨none, .store 1 (.t 55) (.t 53), none⟩])))))))
    (.skip))))
  (.keep [0, 1, 2] (.seq (.reg [⟨(some 56), .mov (.t 0), none⟩,
      ⟨(some 57), .nilchk (.t 56), none⟩,
      ⟨(some 58), .fieldA 0 (.t 57), none⟩,
      ⟨(some 59), .mov (.t 1), none⟩,
      ⟨(some 60), .mov (.t 2), none⟩,
      ⟨(some 61), .build [.int .i64 0, .int .i64 0, .str [], .str [], .sl none 1 0 (some 0)] [(0, 1, (.c (.int .i64 3))), (2, 1, (.t 59)), (3, 1, (.t 60))], none⟩,
      ⟨(some 62), .callF 45 [(.t 58), (.t 61)], none⟩])
  (.keep [] (.seq (.reg [⟨(some 6), .mov (.c (.nilI)), none⟩])
  (.ret)))))))))
def a12 : AFun := ⟨3, c12, [.tmp 6]⟩

/- (*patois/world.Kernel).Names -/
def c13l0 : ACode :=
  .keep [3, 9, 10, 11] (.seq (.reg [⟨(some 12), .bin .lss (.t 11) (.t 10), none⟩])
  (.keep [3, 9, 10, 11, 12] (.seq (.cond (.t 12)
    (.skip)
    (.exit 0))
  (.keep [3, 9, 10, 11] (.seq (.block 1 (.seq (.reg [⟨(some 13), .indexA 2 (.t 9) (.t 11), none⟩,
      ⟨(some 14), .load 2 true (.t 13), none⟩,
      ⟨(some 5), .alloc [.str [], .str []], none⟩,
      ⟨none, .store 2 (.t 5) (.t 14), none⟩])
    (.keep [3, 5, 9, 10, 11] (.reg [⟨(some 15), .mov (.t 3), none⟩,
      ⟨(some 16), .fieldA 0 (.t 5), none⟩,
      ⟨(some 17), .load 1 false (.t 16), none⟩,
      ⟨(some 18), .bslice 1 1 [.str []] [(0, 1, (.t 17))], none⟩,
      ⟨(some 19), .append 1 16 (.t 15) (.t 18), none⟩,
      ⟨(some 3), .mov (.t 19), none⟩]))))
  (.keep [3, 9, 10, 11] (.reg [⟨(some 20), .bin .add (.t 11) (.c (.int .i64 1)), none⟩,
      ⟨(some 11), .mov (.t 20), none⟩])))))))
def c13 : ACode :=
  .seq (.reg [⟨(some 2), .mov (.c (.sl none 1 0 (some 0))), none⟩])
  (.keep [0] (.seq (.reg [⟨(some 3), .mov (.c (.sl none 1 0 (some 0))), none⟩])
  (.keep [0, 3] (.seq (.seq (.reg [⟨(some 6), .mov (.t 0), none⟩,
      ⟨(some 7), .nilchk (.t 6), none⟩,
      ⟨(some 8), .fieldA 1 (.t 7), none⟩,
      ⟨(some 9), .load 1 false (.t 8), none⟩,
      ⟨(some 10), .len false (.t 9), none⟩,
      ⟨(some 11), .mov (.c (.int .i64 0)), none⟩])
  (.keep [3, 9, 10, 11] (.block 0 (.loop c13l0))))
  (.keep [3] (.seq (.reg [⟨(some 21), .mov (.t 3), none⟩,
      ⟨(some 2), .mov (.t 21), none⟩])
  (.ret)))))))
def a13 : AFun := ⟨1, c13, [.tmp 2]⟩

/- patois/patoisref.Texts -/
def c14l0 : ACode :=
  .keep [0, 3, 4] (.seq (.seq (.reg [⟨(some 8), .mov (.t 4), none⟩,
      ⟨(some 9), .mov (.t 0), none⟩,
      ⟨(some 10), .len false (.t 9), none⟩,
      ⟨(some 11), .bin .lss (.t 8) (.t 10), none⟩])
  (.keep [0, 3, 4, 11] (.cond (.t 11)
    (.skip)
    (.exit 0))))
  (.keep [0, 3, 4] (.seq (.block 1 (.reg [⟨(some 14), .mov (.t 3), none⟩,
      ⟨(some 15), .mov (.t 0), none⟩,
      ⟨(some 16), .mov (.t 4), none⟩,
      ⟨(some 17), .indexA 1 (.t 15) (.t 16), none⟩,
      ⟨(some 18), .load 1 false (.t 17), none⟩,
      ⟨(some 19), .bslice 1 1 [.str []] [(0, 1, (.t 18))], none⟩,
      ⟨(some 20), .append 1 16 (.t 14) (.t 19), none⟩,
      ⟨(some 3), .mov (.t 20), none⟩]))
  (.keep [0, 3, 4] (.reg [⟨(some 12), .mov (.t 4), none⟩,
      ⟨(some 13), .bin .add (.t 12) (.c (.int .i64 1)), none⟩,
      ⟨(some 4), .mov (.t 13), none⟩])))))
def c14 : ACode :=
  .seq (.reg [⟨(some 2), .mov (.c (.sl none 1 0 (some 0))), none⟩])
  (.keep [0] (.seq (.reg [⟨(some 5), .mov (.t 0), none⟩,
      ⟨(some 6), .len false (.t 5), none⟩,
      ⟨(some 7), .mkSlice 1 16 [.str []] (.c (.int .i64 0)) (.t 6), none⟩,
      ⟨(some 3), .mov (.t 7), none⟩])
  (.keep [0, 3] (.seq (.seq (.reg [⟨(some 4), .mov (.c (.int .i64 0)), none⟩])
  (.keep [0, 3, 4] (.block 0 (.loop c14l0))))
  (.keep [3] (.seq (.reg [⟨(some 21), .mov (.t 3), none⟩,
      ⟨(some 2), .mov (.t 21), none⟩])
  (.ret)))))))
def a14 : AFun := ⟨1, c14, [.tmp 2]⟩

/- (*patois/world.Kernel).Exec -/
def c15 : ACode :=
  .seq (.reg [⟨(some 8), .mov (.c (.str [])), none⟩,
      ⟨(some 9), .mov (.c (.int .i64 0)), none⟩,
      ⟨(some 10), .mov (.c (.bool false)), none⟩])
  (.keep [0, 1, 2, 3] (.seq (.reg [⟨(some 16), .mov (.t 0), none⟩,
      ⟨(some 17), .mov (.t 1), none⟩,
      ⟨(some 18), .mov (.t 3), none⟩,
      ⟨(some 19), .callF 47 [(.t 16), (.t 17), (.t 18)], none⟩,
      ⟨(some 15), .mov (.t 19), none⟩,
      ⟨(some 20), .extract (.t 15) 0, none⟩,
      ⟨(some 21), .extract (.t 15) 1, none⟩,
      ⟨(some 11), .alloc [.str [], .sl none 1 0 (some 0), .bool false, .bool false, .bool false, .str [], .int .i64 0], none⟩,
      ⟨none, .store 7 (.t 11) (.t 20), none⟩,
      ⟨(some 12), .mov (.t 21), none⟩])
  (.keep [0, 1, 2, 3, 11, 12] (.seq (.dreg [⟨0, ⟨(some 22), .fieldA 6 (.t 11), none⟩, [], []⟩,
      ⟨1, ⟨(some 23), .load 1 false (.t 22), none⟩, [0], []⟩,
      ⟨2, ⟨(some 24), .mov (.t 1), none⟩, [], []⟩,
      ⟨3, ⟨(some 25), .mov (.t 3), none⟩, [], []⟩,
      ⟨6, ⟨(some 13), .alloc [.int .i64 0, .int .i64 0, .str [], .str [], .sl none 1 0 (some 0)], none⟩, [], []⟩,
      ⟨4, ⟨(some 26), .callF 43 [(.t 25)], none⟩, [3], [1]⟩,
      ⟨5, ⟨(some 27), .build [.int .i64 0, .int .i64 0, .str [], .str [], .sl none 1 0 (some 0)] [(0, 1, (.c (.int .i64 1))), (1, 1, (.t 23)), (2, 1, (.t 24)), (4, 1, (.t 26))], none⟩, [0, 1, 2, 3, 4], []⟩,
      ⟨7, ⟨none, .store 5 (.t 13) (.t 27), none⟩, [0, 1, 2, 3, 4, 5, 6], []⟩])
  (.keep [0, 2, 11, 12, 13] (.seq (.seq (.reg [⟨(some 28), .fieldA 3 (.t 11), none⟩,
      ⟨(some 29), .load 1 false (.t 28), none⟩])
  (.keep [0, 2, 11, 12, 13, 29] (.cond (.t 29)
    (.reg [⟨(some 30), .mov (.t 2), none⟩,
      ⟨(some 31), .fieldA 3 (.t 13), none⟩,
      ⟨none, .store 1 (.t 31) (.t 30), none⟩])
    (.skip))))
  (.keep [0, 2, 11, 12, 13] (.seq (.dreg [⟨0, ⟨(some 32), .mov (.t 0), none⟩, [], []⟩,
      ⟨1, ⟨(some 33), .nilchk (.t 32), none⟩, [0], []⟩,
      ⟨2, ⟨(some 34), .fieldA 0 (.t 33), none⟩, [0, 1], []⟩,
      ⟨3, ⟨(some 35), .load 5 true (.t 13), none⟩, [], []⟩,
      ⟨4, ⟨(some 36), .callF 45 [(.t 34), (.t 35)], none⟩, [0, 1, 2, 3], []⟩])
  (.keep [2, 11, 12] (.seq (.reg [⟨(some 37), .fieldA 5 (.t 11), none⟩,
      ⟨(some 38), .load 1 false (.t 37), none⟩,
      ⟨(some 14), .mov (.t 38), none⟩])
  (.keep [2, 11, 12, 14] (.seq (.seq (.reg [⟨(some 39), .fieldA 4 (.t 11), none⟩,
      ⟨(some 40), .load 1 false (.t 39), none⟩])
  (.keep [2, 11, 12, 14, 40] (.cond (.t 40)
    (.reg [⟨(some 41), .mov (.t 14), none⟩,
      ⟨(some 42), .mov (.t 2), none⟩,
      ⟨(some 43), .bin .add (.t 41) (.t 42), none⟩,
      ⟨(some 14), .mov (.t 43), none⟩])
    (.skip))))
  (.keep [11, 12, 14] (.seq (.dreg [⟨0, ⟨(some 44), .mov (.t 14), none⟩, [], []⟩,
      ⟨1, ⟨(some 45), .fieldA 6 (.t 11), none⟩, [], []⟩,
      ⟨2, ⟨(some 46), .load 1 false (.t 45), none⟩, [1], []⟩,
      ⟨3, ⟨(some 47), .mov (.t 12), none⟩, [], []⟩,
      ⟨4, ⟨(some 8), .mov (.t 44), none⟩, [0], []⟩,
      ⟨5, ⟨(some 9), .mov (.t 46), none⟩, [0, 1, 2, 4], []⟩,
      ⟨6, ⟨(some 10), .mov (.t 47), none⟩, [0, 1, 2, 3, 4, 5], []⟩])
  (.ret)))))))))))))))
def a15 : AFun := ⟨4, c15, [.tmp 8, .tmp 9, .tmp 10]⟩

/- (*patois/world.asked).Trace -/
def c16 : ACode :=
  .seq (.reg [⟨(some 2), .mov (.c (.sl none 1 0 (some 0))), none⟩])
  (.keep [0] (.seq (.reg [⟨(some 3), .mov (.t 0), none⟩,
      ⟨(some 4), .nilchk (.t 3), none⟩,
      ⟨(some 5), .fieldA 0 (.t 4), none⟩,
      ⟨(some 6), .load 1 false (.t 5), none⟩,
      ⟨(some 7), .callF 48 [(.t 6)], none⟩,
      ⟨(some 2), .mov (.t 7), none⟩])
  (.ret)))
def a16 : AFun := ⟨1, c16, [.tmp 2]⟩

/- (*patois/world.Kernel).Files -/
def c17 : ACode :=
  .seq (.reg [⟨(some 2), .mov (.c (.sl none 1 0 (some 0))), none⟩])
  (.keep [0] (.seq (.reg [⟨(some 3), .mov (.t 0), none⟩,
      ⟨(some 4), .nilchk (.t 3), none⟩,
      ⟨(some 5), .fieldA 1 (.t 4), none⟩,
      ⟨(some 6), .load 1 false (.t 5), none⟩,
      ⟨(some 7), .callF 40 [(.t 6)], none⟩,
      ⟨(some 2), .mov (.t 7), none⟩])
  (.ret)))
def a17 : AFun := ⟨1, c17, [.tmp 2]⟩

/- patois/patoisref.SameTexts -/
def c18l0 : ACode :=
  .keep [0, 1, 5] (.seq (.seq (.reg [⟨(some 12), .mov (.t 5), none⟩,
      ⟨(some 13), .mov (.t 0), none⟩,
      ⟨(some 14), .len false (.t 13), none⟩,
      ⟨(some 15), .bin .lss (.t 12) (.t 14), none⟩])
  (.keep [0, 1, 5, 15] (.cond (.t 15)
    (.skip)
    (.exit 0))))
  (.keep [0, 1, 5] (.seq (.block 1 (.seq (.dreg [⟨0, ⟨(some 18), .mov (.t 0), none⟩, [], []⟩,
      ⟨1, ⟨(some 19), .mov (.t 5), none⟩, [], []⟩,
      ⟨2, ⟨(some 20), .indexA 1 (.t 18) (.t 19), none⟩, [0, 1], []⟩,
      ⟨3, ⟨(some 21), .load 1 false (.t 20), none⟩, [0, 1, 2], []⟩,
      ⟨4, ⟨(some 22), .mov (.t 1), none⟩, [], []⟩,
      ⟨5, ⟨(some 23), .mov (.t 5), none⟩, [], []⟩,
      ⟨6, ⟨(some 24), .indexA 1 (.t 22) (.t 23), none⟩, [4, 5], []⟩,
      ⟨7, ⟨(some 25), .load 1 false (.t 24), none⟩, [4, 5, 6], []⟩,
      ⟨8, ⟨(some 26), .bin .eql (.t 21) (.t 25), none⟩, [0, 1, 2, 3, 4, 5, 6, 7], []⟩,
      ⟨9, ⟨(some 6), .mov (.t 26), none⟩, [0, 1, 2, 3, 4, 5, 6, 7, 8], []⟩])
    (.keep [0, 1, 5, 6] (.seq (.reg [⟨(some 27), .mov (.t 6), none⟩,
      ⟨(some 28), .not (.t 27), none⟩])
    (.keep [0, 1, 5, 28] (.cond (.t 28)
      (.seq (.reg [⟨(some 4), .mov (.c (.bool false)), none⟩])
      (.ret))
      (.skip)))))))
  (.keep [0, 1, 5] (.reg [⟨(some 16), .mov (.t 5), none⟩,
      ⟨(some 17), .bin .add (.t 16) (.c (.int .i64 1)), none⟩,
      ⟨(some 5), .mov (.t 17), none⟩])))))
def c18 : ACode :=
  .seq (.reg [⟨(some 4), .mov (.c (.bool false)), none⟩])
  (.keep [0, 1] (.seq (.seq (.reg [⟨(some 7), .mov (.t 0), none⟩,
      ⟨(some 8), .len false (.t 7), none⟩,
      ⟨(some 9), .mov (.t 1), none⟩,
      ⟨(some 10), .len false (.t 9), none⟩,
      ⟨(some 11), .bin .neq (.t 8) (.t 10), none⟩])
  (.keep [0, 1, 11] (.cond (.t 11)
    (.seq (.reg [⟨(some 4), .mov (.c (.bool false)), none⟩])
    (.ret))
    (.skip))))
  (.keep [0, 1] (.seq (.seq (.reg [⟨(some 5), .mov (.c (.int .i64 0)), none⟩])
  (.keep [0, 1, 5] (.block 0 (.loop c18l0))))
  (.keep [] (.seq (.reg [⟨(some 4), .mov (.c (.bool true)), none⟩])
  (.ret)))))))
def a18 : AFun := ⟨2, c18, [.tmp 4]⟩

/- (*patois/world.Kernel).Reads -/
def c19 : ACode :=
  .seq (.reg [⟨(some 6), .mov (.c (.bool false)), none⟩])
  (.keep [0, 1, 2] (.seq (.reg [⟨(some 10), .mov (.t 0), none⟩,
      ⟨(some 11), .mov (.t 1), none⟩,
      ⟨(some 12), .mov (.t 2), none⟩,
      ⟨(some 13), .callF 47 [(.t 10), (.t 11), (.t 12)], none⟩,
      ⟨(some 9), .mov (.t 13), none⟩,
      ⟨(some 14), .extract (.t 9) 0, none⟩,
      ⟨(some 15), .extract (.t 9) 1, none⟩,
      ⟨(some 7), .alloc [.str [], .sl none 1 0 (some 0), .bool false, .bool false, .bool false, .str [], .int .i64 0], none⟩,
      ⟨none, .store 7 (.t 7) (.t 14), none⟩,
      ⟨(some 8), .mov (.t 15), none⟩])
  (.keep [7, 8] (.seq (.reg [⟨(some 16), .mov (.t 8), none⟩,
      ⟨(some 17), .mov (.t 16), none⟩,
      ⟨(some 18), .fieldA 3 (.t 7), (some (17, true))⟩,
      ⟨(some 19), .load 1 false (.t 18), (some (17, true))⟩,
      ⟨(some 20), .pick (.t 17) (.t 19) (.c (.bool false)), none⟩,
      ⟨(some 6), .mov (.t 20), none⟩])
  (.ret)))))
def a19 : AFun := ⟨3, c19, [.tmp 6]⟩

/- (*patois/world.asked).Mark -/
def c20 : ACode :=
  .seq (.reg [⟨(some 6), .mov (.t 1), none⟩,
      ⟨(some 7), .bin .eql (.t 6) (.c (.int .i64 4)), none⟩,
      ⟨(some 8), .mov (.t 7), none⟩,
      ⟨(some 9), .mov (.t 1), (some (8, false))⟩,
      ⟨(some 10), .bin .eql (.t 9) (.c (.int .i64 5)), (some (8, false))⟩,
      ⟨(some 11), .pick (.t 8) (.c (.bool true)) (.t 10), none⟩,
      ⟨(some 12), .mov (.t 11), none⟩,
      ⟨(some 13), .mov (.t 1), (some (12, false))⟩,
      ⟨(some 14), .bin .eql (.t 13) (.c (.int .i64 6)), (some (12, false))⟩,
      ⟨(some 15), .pick (.t 12) (.c (.bool true)) (.t 14), none⟩])
  (.keep [0, 1, 2, 15] (.cond (.t 15)
    (.reg [⟨(some 16), .mov (.t 0), none⟩,
      ⟨(some 17), .mov (.t 1), none⟩,
      ⟨(some 18), .mov (.t 2), none⟩,
      ⟨(some 19), .build [.int .i64 0, .int .i64 0, .str [], .str [], .sl none 1 0 (some 0)] [(0, 1, (.t 17)), (1, 1, (.t 18))], none⟩,
      ⟨(some 20), .callF 45 [(.t 16), (.t 19)], none⟩])
    (.skip)))
def a20 : AFun := ⟨3, c20, []⟩

/- patois/patoisref.SameEvents -/
def c21l0 : ACode :=
  .keep [0, 1, 5] (.seq (.seq (.reg [⟨(some 12), .mov (.t 5), none⟩,
      ⟨(some 13), .mov (.t 0), none⟩,
      ⟨(some 14), .len false (.t 13), none⟩,
      ⟨(some 15), .bin .lss (.t 12) (.t 14), none⟩])
  (.keep [0, 1, 5, 15] (.cond (.t 15)
    (.skip)
    (.exit 0))))
  (.keep [0, 1, 5] (.seq (.block 1 (.seq (.dreg [⟨0, ⟨(some 18), .mov (.t 0), none⟩, [], []⟩,
      ⟨1, ⟨(some 19), .mov (.t 5), none⟩, [], []⟩,
      ⟨2, ⟨(some 20), .indexA 5 (.t 18) (.t 19), none⟩, [0, 1], []⟩,
      ⟨3, ⟨(some 21), .load 5 true (.t 20), none⟩, [0, 1, 2], []⟩,
      ⟨4, ⟨(some 22), .mov (.t 1), none⟩, [], []⟩,
      ⟨5, ⟨(some 23), .mov (.t 5), none⟩, [], []⟩,
      ⟨6, ⟨(some 24), .indexA 5 (.t 22) (.t 23), none⟩, [4, 5], []⟩,
      ⟨7, ⟨(some 25), .load 5 true (.t 24), none⟩, [4, 5, 6], []⟩,
      ⟨8, ⟨(some 26), .callF 49 [(.t 21), (.t 25)], none⟩, [0, 1, 2, 3, 4, 5, 6, 7], []⟩,
      ⟨9, ⟨(some 6), .mov (.t 26), none⟩, [0, 1, 2, 3, 4, 5, 6, 7, 8], []⟩])
    (.keep [0, 1, 5, 6] (.seq (.reg [⟨(some 27), .mov (.t 6), none⟩,
      ⟨(some 28), .not (.t 27), none⟩])
    (.keep [0, 1, 5, 28] (.cond (.t 28)
      (.seq (.reg [⟨(some 4), .mov (.c (.bool false)), none⟩])
      (.ret))
      (.skip)))))))
  (.keep [0, 1, 5] (.reg [⟨(some 16), .mov (.t 5), none⟩,
      ⟨(some 17), .bin .add (.t 16) (.c (.int .i64 1)), none⟩,
      ⟨(some 5), .mov (.t 17), none⟩])))))
def c21 : ACode :=
  .seq (.reg [⟨(some 4), .mov (.c (.bool false)), none⟩])
  (.keep [0, 1] (.seq (.seq (.reg [⟨(some 7), .mov (.t 0), none⟩,
      ⟨(some 8), .len false (.t 7), none⟩,
      ⟨(some 9), .mov (.t 1), none⟩,
      ⟨(some 10), .len false (.t 9), none⟩,
      ⟨(some 11), .bin .neq (.t 8) (.t 10), none⟩])
  (.keep [0, 1, 11] (.cond (.t 11)
    (.seq (.reg [⟨(some 4), .mov (.c (.bool false)), none⟩])
    (.ret))
    (.skip))))
  (.keep [0, 1] (.seq (.seq (.reg [⟨(some 5), .mov (.c (.int .i64 0)), none⟩])
  (.keep [0, 1, 5] (.block 0 (.loop c21l0))))
  (.keep [] (.seq (.reg [⟨(some 4), .mov (.c (.bool true)), none⟩])
  (.ret)))))))
def a21 : AFun := ⟨2, c21, [.tmp 4]⟩

/- patois/world.Erase -/
def c22 : ACode :=
  .seq (.reg [⟨(some 2), .mov (.c (.sl none 1 0 (some 0))), none⟩])
  (.keep [0] (.seq (.reg [⟨(some 3), .mov (.t 0), none⟩,
      ⟨(some 4), .callF 48 [(.t 3)], none⟩,
      ⟨(some 5), .callF 50 [(.t 4), (.f 51)], none⟩,
      ⟨(some 2), .mov (.t 5), none⟩])
  (.ret)))
def a22 : AFun := ⟨1, c22, [.tmp 2]⟩

/- (*patois/world.asked).Len -/
def c23 : ACode :=
  .seq (.reg [⟨(some 2), .mov (.c (.int .i64 0)), none⟩])
  (.keep [0] (.seq (.reg [⟨(some 3), .mov (.t 0), none⟩,
      ⟨(some 4), .nilchk (.t 3), none⟩,
      ⟨(some 5), .fieldA 0 (.t 4), none⟩,
      ⟨(some 6), .load 1 false (.t 5), none⟩,
      ⟨(some 7), .len false (.t 6), none⟩,
      ⟨(some 2), .mov (.t 7), none⟩])
  (.ret)))
def a23 : AFun := ⟨1, c23, [.tmp 2]⟩

/- patois/world.May -/
def c27l0 : ACode :=
  .keep [1, 23, 24, 25] (.seq (.reg [⟨(some 26), .bin .lss (.t 25) (.t 24), none⟩])
  (.keep [1, 23, 24, 25, 26] (.seq (.cond (.t 26)
    (.skip)
    (.exit 0))
  (.keep [1, 23, 24, 25] (.seq (.block 1 (.seq (.reg [⟨(some 27), .indexA 7 (.t 23) (.t 25), none⟩,
      ⟨(some 28), .load 7 true (.t 27), none⟩,
      ⟨(some 4), .alloc [.str [], .sl none 1 0 (some 0), .bool false, .bool false, .bool false, .str [], .int .i64 0], none⟩,
      ⟨none, .store 7 (.t 4) (.t 28), none⟩])
    (.keep [1, 4, 23, 24, 25] (.seq (.reg [⟨(some 29), .fieldA 1 (.t 4), none⟩,
      ⟨(some 30), .load 1 false (.t 29), none⟩,
      ⟨(some 31), .len false (.t 30), none⟩,
      ⟨(some 32), .bin .gtr (.t 31) (.c (.int .i64 100)), none⟩])
    (.keep [1, 23, 24, 25, 32] (.cond (.t 32)
      (.seq (.reg [⟨(some 33), .load 1 false (.g 1), none⟩,
      ⟨(some 2), .mov (.t 33), none⟩])
      (.ret))
      (.skip)))))))
  (.keep [1, 23, 24, 25] (.reg [⟨(some 34), .bin .add (.t 25) (.c (.int .i64 1)), none⟩,
      ⟨(some 25), .mov (.t 34), none⟩])))))))
def c27l1 : ACode :=
  .keep [1, 5, 37, 38, 39] (.seq (.reg [⟨(some 40), .bin .lss (.t 39) (.t 38), none⟩])
  (.keep [1, 5, 37, 38, 39, 40] (.seq (.cond (.t 40)
    (.skip)
    (.exit 2))
  (.keep [1, 5, 37, 38, 39] (.seq (.block 3 (.seq (.reg [⟨(some 41), .indexA 2 (.t 37) (.t 39), none⟩,
      ⟨(some 42), .load 2 true (.t 41), none⟩,
      ⟨(some 7), .alloc [.str [], .str []], none⟩,
      ⟨none, .store 2 (.t 7) (.t 42), none⟩])
    (.keep [1, 5, 7, 37, 38, 39] (.seq (.block 4 (.seq (.reg [⟨(some 44), .fieldA 0 (.t 7), none⟩,
      ⟨(some 45), .load 1 false (.t 44), none⟩,
      ⟨(some 46), .bin .eql (.t 45) (.c (.str [])), none⟩,
      ⟨(some 47), .mov (.t 46), none⟩,
      ⟨(some 48), .fieldA 0 (.t 7), (some (47, false))⟩,
      ⟨(some 49), .load 1 false (.t 48), (some (47, false))⟩,
      ⟨(some 50), .len true (.t 49), (some (47, false))⟩,
      ⟨(some 51), .bin .gtr (.t 50) (.c (.int .i64 2000)), (some (47, false))⟩,
      ⟨(some 52), .pick (.t 47) (.c (.bool true)) (.t 51), none⟩,
      ⟨(some 53), .mov (.t 52), none⟩,
      ⟨(some 54), .mov (.t 5), (some (53, false))⟩,
      ⟨(some 55), .fieldA 0 (.t 7), (some (53, false))⟩,
      ⟨(some 56), .load 1 false (.t 55), (some (53, false))⟩,
      ⟨(some 57), .lookup (.bool false) false (.t 54) (.t 56), (some (53, false))⟩,
      ⟨(some 58), .pick (.t 53) (.c (.bool true)) (.t 57), none⟩,
      ⟨(some 43), .mov (.t 58), none⟩])
      (.keep [1, 5, 7, 37, 38, 39, 43] (.cond (.t 43)
        (.seq (.reg [⟨(some 59), .load 1 false (.g 2), none⟩,
      ⟨(some 2), .mov (.t 59), none⟩])
        (.ret))
        (.seq (.reg [⟨(some 61), .fieldA 1 (.t 7), none⟩,
      ⟨(some 62), .load 1 false (.t 61), none⟩,
      ⟨(some 63), .len true (.t 62), none⟩,
      ⟨(some 64), .bin .gtr (.t 63) (.c (.int .i64 16384)), none⟩,
      ⟨(some 60), .mov (.t 64), none⟩])
        (.keep [1, 5, 7, 37, 38, 39, 60] (.cond (.t 60)
          (.seq (.reg [⟨(some 65), .load 1 false (.g 3), none⟩,
      ⟨(some 2), .mov (.t 65), none⟩])
          (.ret))
          (.skip))))))))
    (.keep [1, 5, 7, 37, 38, 39] (.reg [⟨(some 66), .mov (.t 5), none⟩,
      ⟨(some 67), .fieldA 0 (.t 7), none⟩,
      ⟨(some 68), .load 1 false (.t 67), none⟩,
      ⟨none, .mset (.t 66) (.t 68) (.c (.bool true)), none⟩]))))))
  (.keep [1, 5, 37, 38, 39] (.reg [⟨(some 69), .bin .add (.t 39) (.c (.int .i64 1)), none⟩,
      ⟨(some 39), .mov (.t 69), none⟩])))))))
def c27l2 : ACode :=
  .keep [71, 72, 73] (.seq (.reg [⟨(some 74), .bin .lss (.t 73) (.t 72), none⟩])
  (.keep [71, 72, 73, 74] (.seq (.cond (.t 74)
    (.skip)
    (.exit 5))
  (.keep [71, 72, 73] (.seq (.block 6 (.seq (.reg [⟨(some 75), .indexA 7 (.t 71) (.t 73), none⟩,
      ⟨(some 76), .load 7 true (.t 75), none⟩,
      ⟨(some 9), .alloc [.str [], .sl none 1 0 (some 0), .bool false, .bool false, .bool false, .str [], .int .i64 0], none⟩,
      ⟨none, .store 7 (.t 9) (.t 76), none⟩])
    (.keep [9, 71, 72, 73] (.seq (.reg [⟨(some 77), .fieldA 1 (.t 9), none⟩,
      ⟨(some 78), .load 1 false (.t 77), none⟩,
      ⟨(some 79), .callF 54 [(.t 78), (.f 55)], none⟩,
      ⟨(some 10), .mov (.t 79), none⟩])
    (.keep [9, 10, 71, 72, 73] (.block 7 (.seq (.reg [⟨(some 81), .fieldA 0 (.t 9), none⟩,
      ⟨(some 82), .load 1 false (.t 81), none⟩,
      ⟨(some 83), .bin .eql (.t 82) (.c (.str [])), none⟩,
      ⟨(some 84), .mov (.t 83), none⟩,
      ⟨(some 85), .fieldA 0 (.t 9), (some (84, false))⟩,
      ⟨(some 86), .load 1 false (.t 85), (some (84, false))⟩,
      ⟨(some 87), .len true (.t 86), (some (84, false))⟩,
      ⟨(some 88), .bin .gtr (.t 87) (.c (.int .i64 2000)), (some (84, false))⟩,
      ⟨(some 89), .pick (.t 84) (.c (.bool true)) (.t 88), none⟩,
      ⟨(some 80), .mov (.t 89), none⟩])
      (.keep [9, 10, 71, 72, 73, 80] (.cond (.t 80)
        (.seq (.reg [⟨(some 90), .load 1 false (.g 2), none⟩,
      ⟨(some 2), .mov (.t 90), none⟩])
        (.ret))
        (.seq (.reg [⟨(some 92), .mov (.t 10), none⟩,
      ⟨(some 93), .mov (.t 92), none⟩,
      ⟨(some 94), .fieldA 5 (.t 9), (some (93, false))⟩,
      ⟨(some 95), .load 1 false (.t 94), (some (93, false))⟩,
      ⟨(some 96), .len true (.t 95), (some (93, false))⟩,
      ⟨(some 97), .bin .gtr (.t 96) (.c (.int .i64 2000)), (some (93, false))⟩,
      ⟨(some 98), .pick (.t 93) (.c (.bool true)) (.t 97), none⟩,
      ⟨(some 91), .mov (.t 98), none⟩])
        (.keep [9, 71, 72, 73, 91] (.cond (.t 91)
          (.seq (.reg [⟨(some 99), .load 1 false (.g 3), none⟩,
      ⟨(some 2), .mov (.t 99), none⟩])
          (.ret))
          (.seq (.reg [⟨(some 101), .fieldA 6 (.t 9), none⟩,
      ⟨(some 102), .load 1 false (.t 101), none⟩,
      ⟨(some 103), .bin .lss (.t 102) (.c (.int .i64 0)), none⟩,
      ⟨(some 104), .mov (.t 103), none⟩,
      ⟨(some 105), .fieldA 6 (.t 9), (some (104, false))⟩,
      ⟨(some 106), .load 1 false (.t 105), (some (104, false))⟩,
      ⟨(some 107), .bin .gtr (.t 106) (.c (.int .i64 255)), (some (104, false))⟩,
      ⟨(some 108), .pick (.t 104) (.c (.bool true)) (.t 107), none⟩,
      ⟨(some 100), .mov (.t 108), none⟩])
          (.keep [71, 72, 73, 100] (.cond (.t 100)
            (.seq (.reg [⟨(some 109), .load 1 false (.g 4), none⟩,
      ⟨(some 2), .mov (.t 109), none⟩])
            (.ret))
            (.skip))))))))))))))))
  (.keep [71, 72, 73] (.reg [⟨(some 110), .bin .add (.t 73) (.c (.int .i64 1)), none⟩,
      ⟨(some 73), .mov (.t 110), none⟩])))))))
def c27 : ACode :=
  .seq (.reg [⟨(some 1), .box (.t 0), none⟩,
      ⟨(some 2), .mov (.c (.nilI)), none⟩])
  (.keep [1] (.seq (.seq (.reg [⟨(some 11), .fieldA 0 (.t 1), none⟩,
      ⟨(some 12), .load 1 false (.t 11), none⟩,
      ⟨(some 13), .len false (.t 12), none⟩,
      ⟨(some 14), .bin .gtr (.t 13) (.c (.int .i64 50)), none⟩,
      ⟨(some 15), .mov (.t 14), none⟩,
      ⟨(some 16), .fieldA 1 (.t 1), (some (15, false))⟩,
      ⟨(some 17), .load 1 false (.t 16), (some (15, false))⟩,
      ⟨(some 18), .len false (.t 17), (some (15, false))⟩,
      ⟨(some 19), .bin .gtr (.t 18) (.c (.int .i64 50)), (some (15, false))⟩,
      ⟨(some 20), .pick (.t 15) (.c (.bool true)) (.t 19), none⟩])
  (.keep [1, 20] (.cond (.t 20)
    (.seq (.reg [⟨(some 21), .load 1 false (.g 1), none⟩,
      ⟨(some 2), .mov (.t 21), none⟩])
    (.ret))
    (.skip))))
  (.keep [1] (.seq (.seq (.reg [⟨(some 22), .fieldA 1 (.t 1), none⟩,
      ⟨(some 23), .load 1 false (.t 22), none⟩,
      ⟨(some 24), .len false (.t 23), none⟩,
      ⟨(some 25), .mov (.c (.int .i64 0)), none⟩])
  (.keep [1, 23, 24, 25] (.block 0 (.loop c27l0))))
  (.keep [1] (.seq (.reg [⟨(some 35), .mkMap, none⟩,
      ⟨(some 5), .mov (.t 35), none⟩])
  (.keep [1, 5] (.seq (.seq (.reg [⟨(some 36), .fieldA 0 (.t 1), none⟩,
      ⟨(some 37), .load 1 false (.t 36), none⟩,
      ⟨(some 38), .len false (.t 37), none⟩,
      ⟨(some 39), .mov (.c (.int .i64 0)), none⟩])
  (.keep [1, 5, 37, 38, 39] (.block 2 (.loop c27l1))))
  (.keep [1] (.seq (.seq (.reg [⟨(some 70), .fieldA 1 (.t 1), none⟩,
      ⟨(some 71), .load 1 false (.t 70), none⟩,
      ⟨(some 72), .len false (.t 71), none⟩,
      ⟨(some 73), .mov (.c (.int .i64 0)), none⟩])
  (.keep [71, 72, 73] (.block 5 (.loop c27l2))))
  (.keep [] (.seq (.reg [⟨(some 2), .mov (.c (.nilI)), none⟩])
  (.ret)))))))))))))
def a27 : AFun := ⟨1, c27, [.tmp 2]⟩

/- patois/patoisref.SameFiles -/
def c34l0 : ACode :=
  .keep [0, 1, 5] (.seq (.seq (.reg [⟨(some 12), .mov (.t 5), none⟩,
      ⟨(some 13), .mov (.t 0), none⟩,
      ⟨(some 14), .len false (.t 13), none⟩,
      ⟨(some 15), .bin .lss (.t 12) (.t 14), none⟩])
  (.keep [0, 1, 5, 15] (.cond (.t 15)
    (.skip)
    (.exit 0))))
  (.keep [0, 1, 5] (.seq (.block 1 (.seq (.dreg [⟨0, ⟨(some 18), .mov (.t 0), none⟩, [], []⟩,
      ⟨1, ⟨(some 19), .mov (.t 5), none⟩, [], []⟩,
      ⟨2, ⟨(some 20), .indexA 2 (.t 18) (.t 19), none⟩, [0, 1], []⟩,
      ⟨3, ⟨(some 21), .load 2 true (.t 20), none⟩, [0, 1, 2], []⟩,
      ⟨4, ⟨(some 22), .mov (.t 1), none⟩, [], []⟩,
      ⟨5, ⟨(some 23), .mov (.t 5), none⟩, [], []⟩,
      ⟨6, ⟨(some 24), .indexA 2 (.t 22) (.t 23), none⟩, [4, 5], []⟩,
      ⟨7, ⟨(some 25), .load 2 true (.t 24), none⟩, [4, 5, 6], []⟩,
      ⟨8, ⟨(some 26), .callF 59 [(.t 21), (.t 25)], none⟩, [0, 1, 2, 3, 4, 5, 6, 7], []⟩,
      ⟨9, ⟨(some 6), .mov (.t 26), none⟩, [0, 1, 2, 3, 4, 5, 6, 7, 8], []⟩])
    (.keep [0, 1, 5, 6] (.seq (.reg [⟨(some 27), .mov (.t 6), none⟩,
      ⟨(some 28), .not (.t 27), none⟩])
    (.keep [0, 1, 5, 28] (.cond (.t 28)
      (.seq (.reg [⟨(some 4), .mov (.c (.bool false)), none⟩])
      (.ret))
      (.skip)))))))
  (.keep [0, 1, 5] (.reg [⟨(some 16), .mov (.t 5), none⟩,
      ⟨(some 17), .bin .add (.t 16) (.c (.int .i64 1)), none⟩,
      ⟨(some 5), .mov (.t 17), none⟩])))))
def c34 : ACode :=
  .seq (.reg [⟨(some 4), .mov (.c (.bool false)), none⟩])
  (.keep [0, 1] (.seq (.seq (.reg [⟨(some 7), .mov (.t 0), none⟩,
      ⟨(some 8), .len false (.t 7), none⟩,
      ⟨(some 9), .mov (.t 1), none⟩,
      ⟨(some 10), .len false (.t 9), none⟩,
      ⟨(some 11), .bin .neq (.t 8) (.t 10), none⟩])
  (.keep [0, 1, 11] (.cond (.t 11)
    (.seq (.reg [⟨(some 4), .mov (.c (.bool false)), none⟩])
    (.ret))
    (.skip))))
  (.keep [0, 1] (.seq (.seq (.reg [⟨(some 5), .mov (.c (.int .i64 0)), none⟩])
  (.keep [0, 1, 5] (.block 0 (.loop c34l0))))
  (.keep [] (.seq (.reg [⟨(some 4), .mov (.c (.bool true)), none⟩])
  (.ret)))))))
def a34 : AFun := ⟨2, c34, [.tmp 4]⟩

/- patois/patoisref4.Erase -/
def c36l0 : ACode :=
  .keep [0, 3, 4] (.seq (.seq (.reg [⟨(some 5), .mov (.t 4), none⟩,
      ⟨(some 6), .mov (.t 0), none⟩,
      ⟨(some 7), .len false (.t 6), none⟩,
      ⟨(some 8), .bin .lss (.t 5) (.t 7), none⟩])
  (.keep [0, 3, 4, 8] (.cond (.t 8)
    (.skip)
    (.exit 0))))
  (.keep [0, 3, 4] (.seq (.block 1 (.seq (.reg [⟨(some 11), .mov (.t 0), none⟩,
      ⟨(some 12), .mov (.t 4), none⟩,
      ⟨(some 13), .indexA 5 (.t 11) (.t 12), none⟩,
      ⟨(some 14), .fieldA 0 (.t 13), none⟩,
      ⟨(some 15), .load 1 false (.t 14), none⟩,
      ⟨(some 16), .bin .neq (.t 15) (.c (.int .i64 4)), none⟩,
      ⟨(some 17), .mov (.t 16), none⟩,
      ⟨(some 18), .mov (.t 0), (some (17, true))⟩,
      ⟨(some 19), .mov (.t 4), (some (17, true))⟩,
      ⟨(some 20), .indexA 5 (.t 18) (.t 19), (some (17, true))⟩,
      ⟨(some 21), .fieldA 0 (.t 20), (some (17, true))⟩,
      ⟨(some 22), .load 1 false (.t 21), (some (17, true))⟩,
      ⟨(some 23), .bin .neq (.t 22) (.c (.int .i64 5)), (some (17, true))⟩,
      ⟨(some 24), .pick (.t 17) (.t 23) (.c (.bool false)), none⟩,
      ⟨(some 25), .mov (.t 24), none⟩,
      ⟨(some 26), .mov (.t 0), (some (25, true))⟩,
      ⟨(some 27), .mov (.t 4), (some (25, true))⟩,
      ⟨(some 28), .indexA 5 (.t 26) (.t 27), (some (25, true))⟩,
      ⟨(some 29), .fieldA 0 (.t 28), (some (25, true))⟩,
      ⟨(some 30), .load 1 false (.t 29), (some (25, true))⟩,
      ⟨(some 31), .bin .neq (.t 30) (.c (.int .i64 6)), (some (25, true))⟩,
      ⟨(some 32), .pick (.t 25) (.t 31) (.c (.bool false)), none⟩])
    (.keep [0, 3, 4, 32] (.cond (.t 32)
      (.reg [⟨(some 33), .mov (.t 3), none⟩,
      ⟨(some 34), .mov (.t 0), none⟩,
      ⟨(some 35), .mov (.t 4), none⟩,
      ⟨(some 36), .indexA 5 (.t 34) (.t 35), none⟩,
      ⟨(some 37), .load 5 true (.t 36), none⟩,
      ⟨(some 38), .bslice 5 1 [.int .i64 0, .int .i64 0, .str [], .str [], .sl none 1 0 (some 0)] [(0, 5, (.t 37))], none⟩,
      ⟨(some 39), .append 5 72 (.t 33) (.t 38), none⟩,
      ⟨(some 3), .mov (.t 39), none⟩])
      (.skip)))))
  (.keep [0, 3, 4] (.reg [⟨(some 9), .mov (.t 4), none⟩,
      ⟨(some 10), .bin .add (.t 9) (.c (.int .i64 1)), none⟩,
      ⟨(some 4), .mov (.t 10), none⟩])))))
def c36 : ACode :=
  .seq (.reg [⟨(some 2), .mov (.c (.sl none 1 0 (some 0))), none⟩])
  (.keep [0] (.seq (.reg [⟨(some 3), .mov (.c (.sl none 1 0 (some 0))), none⟩])
  (.keep [0, 3] (.seq (.seq (.reg [⟨(some 4), .mov (.c (.int .i64 0)), none⟩])
  (.keep [0, 3, 4] (.block 0 (.loop c36l0))))
  (.keep [3] (.seq (.reg [⟨(some 40), .mov (.t 3), none⟩,
      ⟨(some 2), .mov (.t 40), none⟩])
  (.ret)))))))
def a36 : AFun := ⟨1, c36, [.tmp 2]⟩

/- patois/world.Begins -/
def c37 : ACode :=
  .seq (.reg [⟨(some 4), .mov (.c (.bool false)), none⟩])
  (.keep [0, 1] (.seq (.reg [⟨(some 5), .mov (.t 0), none⟩,
      ⟨(some 6), .len false (.t 5), none⟩,
      ⟨(some 7), .mov (.t 1), none⟩,
      ⟨(some 8), .len false (.t 7), none⟩,
      ⟨(some 9), .bin .leq (.t 6) (.t 8), none⟩,
      ⟨(some 10), .mov (.t 9), none⟩,
      ⟨(some 11), .mov (.t 0), (some (10, true))⟩,
      ⟨(some 12), .mov (.t 1), (some (10, true))⟩,
      ⟨(some 13), .mov (.t 0), (some (10, true))⟩,
      ⟨(some 14), .len false (.t 13), (some (10, true))⟩,
      ⟨(some 15), .slc 5 (.t 12) none (some (.t 14)), (some (10, true))⟩,
      ⟨(some 16), .callF 39 [(.t 11), (.t 15)], (some (10, true))⟩,
      ⟨(some 17), .pick (.t 10) (.t 16) (.c (.bool false)), none⟩,
      ⟨(some 4), .mov (.t 17), none⟩])
  (.ret)))
def a37 : AFun := ⟨2, c37, [.tmp 4]⟩

/- patois/patoisref4.Begins -/
def c38 : ACode :=
  .seq (.reg [⟨(some 4), .mov (.c (.bool false)), none⟩])
  (.keep [0, 1] (.seq (.reg [⟨(some 5), .mov (.t 0), none⟩,
      ⟨(some 6), .len false (.t 5), none⟩,
      ⟨(some 7), .mov (.t 1), none⟩,
      ⟨(some 8), .len false (.t 7), none⟩,
      ⟨(some 9), .bin .leq (.t 6) (.t 8), none⟩,
      ⟨(some 10), .mov (.t 9), none⟩,
      ⟨(some 11), .mov (.t 0), (some (10, true))⟩,
      ⟨(some 12), .mov (.t 1), (some (10, true))⟩,
      ⟨(some 13), .mov (.t 0), (some (10, true))⟩,
      ⟨(some 14), .len false (.t 13), (some (10, true))⟩,
      ⟨(some 15), .slc 5 (.t 12) none (some (.t 14)), (some (10, true))⟩,
      ⟨(some 16), .callF 21 [(.t 11), (.t 15)], (some (10, true))⟩,
      ⟨(some 17), .pick (.t 10) (.t 16) (.c (.bool false)), none⟩,
      ⟨(some 4), .mov (.t 17), none⟩])
  (.ret)))
def a38 : AFun := ⟨2, c38, [.tmp 4]⟩

/- patois/world.SameEvents -/
def c39 : ACode :=
  .seq (.reg [⟨(some 4), .mov (.c (.bool false)), none⟩])
  (.keep [0, 1] (.seq (.reg [⟨(some 5), .mov (.t 0), none⟩,
      ⟨(some 6), .mov (.t 1), none⟩,
      ⟨(some 7), .callF 60 [(.t 5), (.t 6), (.f 61)], none⟩,
      ⟨(some 4), .mov (.t 7), none⟩])
  (.ret)))
def a39 : AFun := ⟨2, c39, [.tmp 4]⟩

/- slices.Clone[[]patois/api.File,patois/api.File] -/
def c40 : ACode :=
  .seq (.reg [⟨(some 2), .mov (.c (.sl none 1 0 (some 0))), none⟩])
  (.keep [0] (.seq (.seq (.reg [⟨(some 3), .mov (.t 0), none⟩,
      ⟨(some 4), .eq false .nilS (.t 3) (.c (.sl none 1 0 (some 0))), none⟩])
  (.keep [0, 4] (.cond (.t 4)
    (.seq (.reg [⟨(some 2), .mov (.c (.sl none 1 0 (some 0))), none⟩])
    (.ret))
    (.skip))))
  (.keep [0] (.seq (.reg [⟨(some 5), .bslice 2 0 [] [], none⟩,
      ⟨(some 6), .mov (.t 0), none⟩,
      ⟨(some 7), .append 2 32 (.t 5) (.t 6), none⟩,
      ⟨(some 2), .mov (.t 7), none⟩])
  (.ret)))))
def a40 : AFun := ⟨1, c40, [.tmp 2]⟩

/- slices.SortFunc[[]patois/api.File,patois/api.File] -/
def c41 : ACode :=
  .seq (.reg [⟨(some 5), .mov (.t 0), none⟩,
      ⟨(some 6), .len false (.t 5), none⟩,
      ⟨(some 4), .mov (.t 6), none⟩])
  (.keep [0, 1, 4] (.reg [⟨(some 7), .mov (.t 0), none⟩,
      ⟨(some 8), .mov (.t 4), none⟩,
      ⟨(some 9), .mov (.t 4), none⟩,
      ⟨(some 10), .conv .u64 (.t 9), none⟩,
      ⟨(some 11), .callF 63 [(.t 10)], none⟩,
      ⟨(some 12), .mov (.t 1), none⟩,
      ⟨(some 13), .callF 62 [(.t 7), (.c (.int .i64 0)), (.t 8), (.t 11), (.t 12)], none⟩]))
def a41 : AFun := ⟨2, c41, []⟩

/- patois/world.byName -/
def c42 : ACode :=
  .seq (.reg [⟨(some 2), .box (.t 0), none⟩,
      ⟨(some 3), .box (.t 1), none⟩,
      ⟨(some 4), .mov (.c (.int .i64 0)), none⟩])
  (.keep [2, 3] (.seq (.reg [⟨(some 5), .fieldA 0 (.t 2), none⟩,
      ⟨(some 6), .load 1 false (.t 5), none⟩,
      ⟨(some 7), .fieldA 0 (.t 3), none⟩,
      ⟨(some 8), .load 1 false (.t 7), none⟩,
      ⟨(some 9), .callF 64 [(.t 6), (.t 8)], none⟩,
      ⟨(some 4), .mov (.t 9), none⟩])
  (.ret)))
def a42 : AFun := ⟨2, c42, [.tmp 4]⟩

/- slices.Clone[[]string,string] -/
def c43 : ACode :=
  .seq (.reg [⟨(some 2), .mov (.c (.sl none 1 0 (some 0))), none⟩])
  (.keep [0] (.seq (.seq (.reg [⟨(some 3), .mov (.t 0), none⟩,
      ⟨(some 4), .eq false .nilS (.t 3) (.c (.sl none 1 0 (some 0))), none⟩])
  (.keep [0, 4] (.cond (.t 4)
    (.seq (.reg [⟨(some 2), .mov (.c (.sl none 1 0 (some 0))), none⟩])
    (.ret))
    (.skip))))
  (.keep [0] (.seq (.reg [⟨(some 5), .bslice 1 0 [] [], none⟩,
      ⟨(some 6), .mov (.t 0), none⟩,
      ⟨(some 7), .append 1 16 (.t 5) (.t 6), none⟩,
      ⟨(some 2), .mov (.t 7), none⟩])
  (.ret)))))
def a43 : AFun := ⟨1, c43, [.tmp 2]⟩

/- (*patois/world.Kernel).file -/
def c44 : ACode :=
  .seq (.reg [⟨(some 4), .mov (.c (.int .i64 0)), none⟩,
      ⟨(some 5), .mov (.c (.bool false)), none⟩])
  (.keep [0, 1] (.seq (.reg [⟨(some 6), .mov (.t 0), none⟩,
      ⟨(some 7), .nilchk (.t 6), none⟩,
      ⟨(some 8), .fieldA 1 (.t 7), none⟩,
      ⟨(some 9), .load 1 false (.t 8), none⟩,
      ⟨(some 10), .mov (.t 1), none⟩,
      ⟨(some 11), .build [.str [], .str []] [(0, 1, (.t 10))], none⟩,
      ⟨(some 12), .callF 65 [(.t 9), (.t 11), (.f 42)], none⟩,
      ⟨(some 13), .extract (.t 12) 0, none⟩,
      ⟨(some 14), .extract (.t 12) 1, none⟩,
      ⟨(some 4), .mov (.t 13), none⟩,
      ⟨(some 5), .mov (.t 14), none⟩])
  (.ret)))
def a44 : AFun := ⟨2, c44, [.tmp 4, .tmp 5]⟩

/- (*patois/world.asked).note -/
def c45 : ACode :=
  .seq (.reg [⟨(some 3), .box (.t 1), none⟩])
  (.keep [0, 3] (.dreg [⟨0, ⟨(some 4), .mov (.t 0), none⟩, [], []⟩,
      ⟨1, ⟨(some 5), .mov (.t 0), none⟩, [], []⟩,
      ⟨2, ⟨(some 6), .nilchk (.t 5), none⟩, [1], []⟩,
      ⟨3, ⟨(some 7), .fieldA 0 (.t 6), none⟩, [1, 2], []⟩,
      ⟨4, ⟨(some 8), .load 1 false (.t 7), none⟩, [1, 2, 3], []⟩,
      ⟨5, ⟨(some 9), .load 5 true (.t 3), none⟩, [], []⟩,
      ⟨6, ⟨(some 10), .bslice 5 1 [.int .i64 0, .int .i64 0, .str [], .str [], .sl none 1 0 (some 0)] [(0, 5, (.t 9))], none⟩, [5], []⟩,
      ⟨7, ⟨(some 11), .append 5 72 (.t 8) (.t 10), none⟩, [1, 2, 3, 4, 5, 6], []⟩,
      ⟨8, ⟨(some 12), .nilchk (.t 4), none⟩, [0, 1, 2, 3, 4, 5, 6, 7], []⟩,
      ⟨9, ⟨(some 13), .fieldA 0 (.t 12), none⟩, [0, 1, 2, 3, 4, 5, 6, 7, 8], []⟩,
      ⟨10, ⟨none, .store 1 (.t 13) (.t 11), none⟩, [0, 1, 2, 3, 4, 5, 6, 7, 8, 9], []⟩]))
def a45 : AFun := ⟨2, c45, []⟩

/- (*patois/world.Kernel).made -/
def c46 : ACode :=
  .seq (.reg [⟨(some 4), .mov (.c (.int .i64 0)), none⟩])
  (.keep [0, 1] (.seq (.reg [⟨(some 8), .mov (.t 0), none⟩,
      ⟨(some 9), .mov (.t 1), none⟩,
      ⟨(some 10), .callF 44 [(.t 8), (.t 9)], none⟩,
      ⟨(some 7), .mov (.t 10), none⟩,
      ⟨(some 11), .extract (.t 7) 0, none⟩,
      ⟨(some 12), .extract (.t 7) 1, none⟩,
      ⟨(some 5), .mov (.t 11), none⟩,
      ⟨(some 6), .mov (.t 12), none⟩])
  (.keep [0, 1, 5, 6] (.seq (.seq (.reg [⟨(some 13), .mov (.t 6), none⟩,
      ⟨(some 14), .not (.t 13), none⟩])
  (.keep [0, 1, 5, 14] (.cond (.t 14)
    (.reg [⟨(some 15), .mov (.t 0), none⟩,
      ⟨(some 16), .mov (.t 0), none⟩,
      ⟨(some 17), .nilchk (.t 16), none⟩,
      ⟨(some 18), .fieldA 1 (.t 17), none⟩,
      ⟨(some 19), .load 1 false (.t 18), none⟩,
      ⟨(some 20), .mov (.t 5), none⟩,
      ⟨(some 21), .mov (.t 1), none⟩,
      ⟨(some 22), .build [.str [], .str []] [(0, 1, (.t 21))], none⟩,
      ⟨(some 23), .bslice 2 1 [.str [], .str []] [(0, 2, (.t 22))], none⟩,
      ⟨(some 24), .callF 66 [(.t 19), (.t 20), (.t 23)], none⟩,
      ⟨(some 25), .nilchk (.t 15), none⟩,
      ⟨(some 26), .fieldA 1 (.t 25), none⟩,
      ⟨none, .store 1 (.t 26) (.t 24), none⟩])
    (.skip))))
  (.keep [5] (.seq (.reg [⟨(some 27), .mov (.t 5), none⟩,
      ⟨(some 4), .mov (.t 27), none⟩])
  (.ret)))))))
def a46 : AFun := ⟨2, c46, [.tmp 4]⟩

/- (*patois/world.Kernel).row -/
def c47l0 : ACode :=
  .keep [1, 2, 6, 13, 14, 15] (.seq (.reg [⟨(some 16), .bin .lss (.t 15) (.t 14), none⟩])
  (.keep [1, 2, 6, 13, 14, 15, 16] (.seq (.cond (.t 16)
    (.skip)
    (.exit 0))
  (.keep [1, 2, 6, 13, 14, 15] (.seq (.block 1 (.seq (.reg [⟨(some 17), .indexA 7 (.t 13) (.t 15), none⟩,
      ⟨(some 18), .load 7 true (.t 17), none⟩,
      ⟨(some 9), .alloc [.str [], .sl none 1 0 (some 0), .bool false, .bool false, .bool false, .str [], .int .i64 0], none⟩,
      ⟨none, .store 7 (.t 9) (.t 18), none⟩])
    (.keep [1, 2, 6, 9, 13, 14, 15] (.seq (.reg [⟨(some 19), .fieldA 0 (.t 9), none⟩,
      ⟨(some 20), .load 1 false (.t 19), none⟩,
      ⟨(some 21), .mov (.t 1), none⟩,
      ⟨(some 22), .bin .eql (.t 20) (.t 21), none⟩,
      ⟨(some 23), .mov (.t 22), none⟩,
      ⟨(some 24), .fieldA 2 (.t 9), (some (23, true))⟩,
      ⟨(some 25), .load 1 false (.t 24), (some (23, true))⟩,
      ⟨(some 26), .mov (.t 25), (some (23, true))⟩,
      ⟨(some 27), .fieldA 1 (.t 9), (some (26, false))⟩,
      ⟨(some 28), .load 1 false (.t 27), (some (26, false))⟩,
      ⟨(some 29), .mov (.t 2), (some (26, false))⟩,
      ⟨(some 30), .callF 67 [(.t 28), (.t 29)], (some (26, false))⟩,
      ⟨(some 31), .pick (.t 26) (.c (.bool true)) (.t 30), (some (23, true))⟩,
      ⟨(some 32), .pick (.t 23) (.t 31) (.c (.bool false)), none⟩])
    (.keep [1, 2, 6, 9, 13, 14, 15, 32] (.cond (.t 32)
      (.seq (.reg [⟨(some 33), .load 7 true (.t 9), none⟩,
      ⟨none, .store 7 (.t 6) (.t 33), none⟩,
      ⟨(some 7), .mov (.c (.bool true)), none⟩])
      (.ret))
      (.skip)))))))
  (.keep [1, 2, 6, 13, 14, 15] (.reg [⟨(some 34), .bin .add (.t 15) (.c (.int .i64 1)), none⟩,
      ⟨(some 15), .mov (.t 34), none⟩])))))))
def c47 : ACode :=
  .seq (.reg [⟨(some 6), .alloc [.str [], .sl none 1 0 (some 0), .bool false, .bool false, .bool false, .str [], .int .i64 0], none⟩,
      ⟨(some 7), .mov (.c (.bool false)), none⟩])
  (.keep [0, 1, 2, 6] (.seq (.seq (.reg [⟨(some 10), .mov (.t 0), none⟩,
      ⟨(some 11), .nilchk (.t 10), none⟩,
      ⟨(some 12), .fieldA 2 (.t 11), none⟩,
      ⟨(some 13), .load 1 false (.t 12), none⟩,
      ⟨(some 14), .len false (.t 13), none⟩,
      ⟨(some 15), .mov (.c (.int .i64 0)), none⟩])
  (.keep [1, 2, 6, 13, 14, 15] (.block 0 (.loop c47l0))))
  (.keep [6] (.seq (.reg [⟨(some 35), .build [.str [], .sl none 1 0 (some 0), .bool false, .bool false, .bool false, .str [], .int .i64 0] [(6, 1, (.c (.int .i64 127)))], none⟩,
      ⟨none, .store 7 (.t 6) (.t 35), none⟩,
      ⟨(some 7), .mov (.c (.bool false)), none⟩])
  (.ret)))))
def a47 : AFun := ⟨3, c47, [.cell 6 7 true, .tmp 7]⟩

/- patois/world.copied -/
def c48l0 : ACode :=
  .keep [3, 6, 7, 8] (.seq (.reg [⟨(some 9), .bin .lss (.t 8) (.t 7), none⟩])
  (.keep [3, 6, 7, 8, 9] (.seq (.cond (.t 9)
    (.skip)
    (.exit 0))
  (.keep [3, 6, 7, 8] (.seq (.block 1 (.seq (.reg [⟨(some 10), .indexA 5 (.t 6) (.t 8), none⟩,
      ⟨(some 11), .load 5 true (.t 10), none⟩,
      ⟨(some 5), .alloc [.int .i64 0, .int .i64 0, .str [], .str [], .sl none 1 0 (some 0)], none⟩,
      ⟨none, .store 5 (.t 5) (.t 11), none⟩])
    (.keep [3, 5, 6, 7, 8] (.seq (.reg [⟨(some 12), .fieldA 4 (.t 5), none⟩,
      ⟨(some 13), .load 1 false (.t 12), none⟩,
      ⟨(some 14), .callF 43 [(.t 13)], none⟩,
      ⟨(some 15), .fieldA 4 (.t 5), none⟩,
      ⟨none, .store 1 (.t 15) (.t 14), none⟩])
    (.keep [3, 5, 6, 7, 8] (.reg [⟨(some 16), .mov (.t 3), none⟩,
      ⟨(some 17), .load 5 true (.t 5), none⟩,
      ⟨(some 18), .bslice 5 1 [.int .i64 0, .int .i64 0, .str [], .str [], .sl none 1 0 (some 0)] [(0, 5, (.t 17))], none⟩,
      ⟨(some 19), .append 5 72 (.t 16) (.t 18), none⟩,
      ⟨(some 3), .mov (.t 19), none⟩]))))))
  (.keep [3, 6, 7, 8] (.reg [⟨(some 20), .bin .add (.t 8) (.c (.int .i64 1)), none⟩,
      ⟨(some 8), .mov (.t 20), none⟩])))))))
def c48 : ACode :=
  .seq (.reg [⟨(some 2), .mov (.c (.sl none 1 0 (some 0))), none⟩])
  (.keep [0] (.seq (.reg [⟨(some 3), .mov (.c (.sl none 1 0 (some 0))), none⟩])
  (.keep [0, 3] (.seq (.seq (.reg [⟨(some 6), .mov (.t 0), none⟩,
      ⟨(some 7), .len false (.t 6), none⟩,
      ⟨(some 8), .mov (.c (.int .i64 0)), none⟩])
  (.keep [3, 6, 7, 8] (.block 0 (.loop c48l0))))
  (.keep [3] (.seq (.reg [⟨(some 21), .mov (.t 3), none⟩,
      ⟨(some 2), .mov (.t 21), none⟩])
  (.ret)))))))
def a48 : AFun := ⟨1, c48, [.tmp 2]⟩

/- patois/patoisref.SameEvent -/
def c49 : ACode :=
  .seq (.reg [⟨(some 2), .box (.t 0), none⟩,
      ⟨(some 3), .box (.t 1), none⟩,
      ⟨(some 4), .mov (.c (.bool false)), none⟩])
  (.keep [2, 3] (.seq (.reg [⟨(some 6), .fieldA 4 (.t 2), none⟩,
      ⟨(some 7), .load 1 false (.t 6), none⟩,
      ⟨(some 8), .fieldA 4 (.t 3), none⟩,
      ⟨(some 9), .load 1 false (.t 8), none⟩,
      ⟨(some 10), .callF 18 [(.t 7), (.t 9)], none⟩,
      ⟨(some 5), .mov (.t 10), none⟩])
  (.keep [2, 3, 5] (.seq (.reg [⟨(some 11), .fieldA 0 (.t 2), none⟩,
      ⟨(some 12), .load 1 false (.t 11), none⟩,
      ⟨(some 13), .fieldA 0 (.t 3), none⟩,
      ⟨(some 14), .load 1 false (.t 13), none⟩,
      ⟨(some 15), .bin .eql (.t 12) (.t 14), none⟩,
      ⟨(some 16), .mov (.t 15), none⟩,
      ⟨(some 17), .fieldA 1 (.t 2), (some (16, true))⟩,
      ⟨(some 18), .load 1 false (.t 17), (some (16, true))⟩,
      ⟨(some 19), .fieldA 1 (.t 3), (some (16, true))⟩,
      ⟨(some 20), .load 1 false (.t 19), (some (16, true))⟩,
      ⟨(some 21), .bin .eql (.t 18) (.t 20), (some (16, true))⟩,
      ⟨(some 22), .pick (.t 16) (.t 21) (.c (.bool false)), none⟩,
      ⟨(some 23), .mov (.t 22), none⟩,
      ⟨(some 24), .fieldA 2 (.t 2), (some (23, true))⟩,
      ⟨(some 25), .load 1 false (.t 24), (some (23, true))⟩,
      ⟨(some 26), .fieldA 2 (.t 3), (some (23, true))⟩,
      ⟨(some 27), .load 1 false (.t 26), (some (23, true))⟩,
      ⟨(some 28), .bin .eql (.t 25) (.t 27), (some (23, true))⟩,
      ⟨(some 29), .pick (.t 23) (.t 28) (.c (.bool false)), none⟩,
      ⟨(some 30), .mov (.t 29), none⟩,
      ⟨(some 31), .fieldA 3 (.t 2), (some (30, true))⟩,
      ⟨(some 32), .load 1 false (.t 31), (some (30, true))⟩,
      ⟨(some 33), .fieldA 3 (.t 3), (some (30, true))⟩,
      ⟨(some 34), .load 1 false (.t 33), (some (30, true))⟩,
      ⟨(some 35), .bin .eql (.t 32) (.t 34), (some (30, true))⟩,
      ⟨(some 36), .pick (.t 30) (.t 35) (.c (.bool false)), none⟩,
      ⟨(some 37), .mov (.t 36), none⟩,
      ⟨(some 38), .mov (.t 5), (some (37, true))⟩,
      ⟨(some 39), .pick (.t 37) (.t 38) (.c (.bool false)), none⟩,
      ⟨(some 4), .mov (.t 39), none⟩])
  (.ret)))))
def a49 : AFun := ⟨2, c49, [.tmp 4]⟩

/- slices.DeleteFunc[[]patois/api.Event,patois/api.Event] -/
def c50l0 : ACode :=
  .keep [0, 1, 5, 6] (.seq (.seq (.reg [⟨(some 16), .mov (.t 6), none⟩,
      ⟨(some 17), .mov (.t 0), none⟩,
      ⟨(some 18), .len false (.t 17), none⟩,
      ⟨(some 19), .bin .lss (.t 16) (.t 18), none⟩])
  (.keep [0, 1, 5, 6, 19] (.cond (.t 19)
    (.skip)
    (.exit 0))))
  (.keep [0, 1, 5, 6] (.seq (.block 1 (.seq (.reg [⟨(some 22), .mov (.t 0), none⟩,
      ⟨(some 23), .mov (.t 6), none⟩,
      ⟨(some 24), .indexA 5 (.t 22) (.t 23), none⟩,
      ⟨(some 25), .load 5 true (.t 24), none⟩,
      ⟨(some 7), .alloc [.int .i64 0, .int .i64 0, .str [], .str [], .sl none 1 0 (some 0)], none⟩,
      ⟨none, .store 5 (.t 7) (.t 25), none⟩])
    (.keep [0, 1, 5, 6, 7] (.seq (.reg [⟨(some 26), .mov (.t 1), none⟩,
      ⟨(some 27), .load 5 true (.t 7), none⟩,
      ⟨(some 28), .callV (.t 26) [(.t 27)], none⟩,
      ⟨(some 29), .not (.t 28), none⟩])
    (.keep [0, 1, 5, 6, 7, 29] (.cond (.t 29)
      (.seq (.reg [⟨(some 30), .mov (.t 0), none⟩,
      ⟨(some 31), .mov (.t 5), none⟩,
      ⟨(some 32), .load 5 true (.t 7), none⟩,
      ⟨(some 33), .indexA 5 (.t 30) (.t 31), none⟩,
      ⟨none, .store 5 (.t 33) (.t 32), none⟩])
      (.keep [0, 1, 5, 6] (.reg [⟨(some 34), .mov (.t 5), none⟩,
      ⟨(some 35), .bin .add (.t 34) (.c (.int .i64 1)), none⟩,
      ⟨(some 5), .mov (.t 35), none⟩])))
      (.skip)))))))
  (.keep [0, 1, 5, 6] (.reg [⟨(some 20), .mov (.t 6), none⟩,
      ⟨(some 21), .bin .add (.t 20) (.c (.int .i64 1)), none⟩,
      ⟨(some 6), .mov (.t 21), none⟩])))))
def c50 : ACode :=
  .seq (.reg [⟨(some 4), .mov (.c (.sl none 1 0 (some 0))), none⟩])
  (.keep [0, 1] (.seq (.reg [⟨(some 8), .mov (.t 0), none⟩,
      ⟨(some 9), .mov (.t 1), none⟩,
      ⟨(some 10), .callF 68 [(.t 8), (.t 9)], none⟩,
      ⟨(some 5), .mov (.t 10), none⟩])
  (.keep [0, 1, 5] (.seq (.seq (.reg [⟨(some 11), .mov (.t 5), none⟩,
      ⟨(some 12), .bin .eql (.t 11) (.c (.int .i64 (-1))), none⟩])
  (.keep [0, 1, 5, 12] (.cond (.t 12)
    (.seq (.reg [⟨(some 13), .mov (.t 0), none⟩,
      ⟨(some 4), .mov (.t 13), none⟩])
    (.ret))
    (.skip))))
  (.keep [0, 1, 5] (.seq (.seq (.reg [⟨(some 14), .mov (.t 5), none⟩,
      ⟨(some 15), .bin .add (.t 14) (.c (.int .i64 1)), none⟩,
      ⟨(some 6), .mov (.t 15), none⟩])
  (.keep [0, 1, 5, 6] (.block 0 (.loop c50l0))))
  (.keep [0, 5] (.seq (.reg [⟨(some 36), .mov (.t 0), none⟩,
      ⟨(some 37), .mov (.t 5), none⟩,
      ⟨(some 38), .slc 5 (.t 36) (some (.t 37)) none, none⟩,
      ⟨none, .clear 5 [.int .i64 0, .int .i64 0, .str [], .str [], .sl none 1 0 (some 0)] (.t 38), none⟩])
  (.keep [0, 5] (.seq (.reg [⟨(some 39), .mov (.t 0), none⟩,
      ⟨(some 40), .mov (.t 5), none⟩,
      ⟨(some 41), .slc 5 (.t 39) none (some (.t 40)), none⟩,
      ⟨(some 4), .mov (.t 41), none⟩])
  (.ret)))))))))))
def a50 : AFun := ⟨2, c50, [.tmp 4]⟩

/- patois/world.Erase$1 -/
def c51 : ACode :=
  .seq (.reg [⟨(some 1), .box (.t 0), none⟩,
      ⟨(some 2), .mov (.c (.bool false)), none⟩])
  (.keep [1] (.seq (.reg [⟨(some 3), .fieldA 0 (.t 1), none⟩,
      ⟨(some 4), .load 1 false (.t 3), none⟩,
      ⟨(some 5), .bin .eql (.t 4) (.c (.int .i64 4)), none⟩,
      ⟨(some 6), .mov (.t 5), none⟩,
      ⟨(some 7), .fieldA 0 (.t 1), (some (6, false))⟩,
      ⟨(some 8), .load 1 false (.t 7), (some (6, false))⟩,
      ⟨(some 9), .bin .eql (.t 8) (.c (.int .i64 5)), (some (6, false))⟩,
      ⟨(some 10), .pick (.t 6) (.c (.bool true)) (.t 9), none⟩,
      ⟨(some 11), .mov (.t 10), none⟩,
      ⟨(some 12), .fieldA 0 (.t 1), (some (11, false))⟩,
      ⟨(some 13), .load 1 false (.t 12), (some (11, false))⟩,
      ⟨(some 14), .bin .eql (.t 13) (.c (.int .i64 6)), (some (11, false))⟩,
      ⟨(some 15), .pick (.t 11) (.c (.bool true)) (.t 14), none⟩,
      ⟨(some 2), .mov (.t 15), none⟩])
  (.ret)))
def a51 : AFun := ⟨1, c51, [.tmp 2]⟩

/- slices.ContainsFunc[[]string,string] -/
def c54 : ACode :=
  .seq (.reg [⟨(some 4), .mov (.c (.bool false)), none⟩])
  (.keep [0, 1] (.seq (.reg [⟨(some 5), .mov (.t 0), none⟩,
      ⟨(some 6), .mov (.t 1), none⟩,
      ⟨(some 7), .callF 71 [(.t 5), (.t 6)], none⟩,
      ⟨(some 8), .bin .geq (.t 7) (.c (.int .i64 0)), none⟩,
      ⟨(some 4), .mov (.t 8), none⟩])
  (.ret)))
def a54 : AFun := ⟨2, c54, [.tmp 4]⟩

/- patois/world.May$1 -/
def c55 : ACode :=
  .seq (.reg [⟨(some 2), .mov (.c (.bool false)), none⟩])
  (.keep [0] (.seq (.reg [⟨(some 3), .mov (.t 0), none⟩,
      ⟨(some 4), .len true (.t 3), none⟩,
      ⟨(some 5), .bin .gtr (.t 4) (.c (.int .i64 2000)), none⟩,
      ⟨(some 2), .mov (.t 5), none⟩])
  (.ret)))
def a55 : AFun := ⟨1, c55, [.tmp 2]⟩

/- patois/patoisref.SameFile -/
def c59 : ACode :=
  .seq (.reg [⟨(some 2), .box (.t 0), none⟩,
      ⟨(some 3), .box (.t 1), none⟩,
      ⟨(some 4), .mov (.c (.bool false)), none⟩])
  (.keep [2, 3] (.seq (.reg [⟨(some 5), .fieldA 0 (.t 2), none⟩,
      ⟨(some 6), .load 1 false (.t 5), none⟩,
      ⟨(some 7), .fieldA 0 (.t 3), none⟩,
      ⟨(some 8), .load 1 false (.t 7), none⟩,
      ⟨(some 9), .bin .eql (.t 6) (.t 8), none⟩,
      ⟨(some 10), .mov (.t 9), none⟩,
      ⟨(some 11), .fieldA 1 (.t 2), (some (10, true))⟩,
      ⟨(some 12), .load 1 false (.t 11), (some (10, true))⟩,
      ⟨(some 13), .fieldA 1 (.t 3), (some (10, true))⟩,
      ⟨(some 14), .load 1 false (.t 13), (some (10, true))⟩,
      ⟨(some 15), .bin .eql (.t 12) (.t 14), (some (10, true))⟩,
      ⟨(some 16), .pick (.t 10) (.t 15) (.c (.bool false)), none⟩,
      ⟨(some 4), .mov (.t 16), none⟩])
  (.ret)))
def a59 : AFun := ⟨2, c59, [.tmp 4]⟩

/- slices.EqualFunc[[]patois/api.Event,[]patois/api.Event,patois/api.Event,patois/api.Event] -/
def c60l0 : ACode :=
  .keep [1, 2, 15, 16, 17] (.seq (.reg [⟨(some 18), .bin .lss (.t 17) (.t 16), none⟩])
  (.keep [1, 2, 15, 16, 17, 18] (.seq (.cond (.t 18)
    (.skip)
    (.exit 0))
  (.keep [1, 2, 15, 16, 17] (.seq (.block 1 (.seq (.reg [⟨(some 19), .mov (.t 17), none⟩,
      ⟨(some 20), .indexA 5 (.t 15) (.t 17), none⟩,
      ⟨(some 21), .load 5 true (.t 20), none⟩,
      ⟨(some 8), .alloc [.int .i64 0, .int .i64 0, .str [], .str [], .sl none 1 0 (some 0)], none⟩,
      ⟨(some 7), .mov (.t 19), none⟩,
      ⟨none, .store 5 (.t 8) (.t 21), none⟩])
    (.keep [1, 2, 7, 8, 15, 16, 17] (.seq (.reg [⟨(some 22), .mov (.t 1), none⟩,
      ⟨(some 23), .mov (.t 7), none⟩,
      ⟨(some 24), .indexA 5 (.t 22) (.t 23), none⟩,
      ⟨(some 25), .load 5 true (.t 24), none⟩,
      ⟨(some 9), .alloc [.int .i64 0, .int .i64 0, .str [], .str [], .sl none 1 0 (some 0)], none⟩,
      ⟨none, .store 5 (.t 9) (.t 25), none⟩])
    (.keep [1, 2, 8, 9, 15, 16, 17] (.seq (.reg [⟨(some 26), .mov (.t 2), none⟩,
      ⟨(some 27), .load 5 true (.t 8), none⟩,
      ⟨(some 28), .load 5 true (.t 9), none⟩,
      ⟨(some 29), .callV (.t 26) [(.t 27), (.t 28)], none⟩,
      ⟨(some 30), .not (.t 29), none⟩])
    (.keep [1, 2, 15, 16, 17, 30] (.cond (.t 30)
      (.seq (.reg [⟨(some 6), .mov (.c (.bool false)), none⟩])
      (.ret))
      (.skip)))))))))
  (.keep [1, 2, 15, 16, 17] (.reg [⟨(some 31), .bin .add (.t 17) (.c (.int .i64 1)), none⟩,
      ⟨(some 17), .mov (.t 31), none⟩])))))))
def c60 : ACode :=
  .seq (.reg [⟨(some 6), .mov (.c (.bool false)), none⟩])
  (.keep [0, 1, 2] (.seq (.seq (.reg [⟨(some 10), .mov (.t 0), none⟩,
      ⟨(some 11), .len false (.t 10), none⟩,
      ⟨(some 12), .mov (.t 1), none⟩,
      ⟨(some 13), .len false (.t 12), none⟩,
      ⟨(some 14), .bin .neq (.t 11) (.t 13), none⟩])
  (.keep [0, 1, 2, 14] (.cond (.t 14)
    (.seq (.reg [⟨(some 6), .mov (.c (.bool false)), none⟩])
    (.ret))
    (.skip))))
  (.keep [0, 1, 2] (.seq (.seq (.reg [⟨(some 15), .mov (.t 0), none⟩,
      ⟨(some 16), .len false (.t 15), none⟩,
      ⟨(some 17), .mov (.c (.int .i64 0)), none⟩])
  (.keep [1, 2, 15, 16, 17] (.block 0 (.loop c60l0))))
  (.keep [] (.seq (.reg [⟨(some 6), .mov (.c (.bool true)), none⟩])
  (.ret)))))))
def a60 : AFun := ⟨3, c60, [.tmp 6]⟩

/- patois/world.same -/
def c61 : ACode :=
  .seq (.reg [⟨(some 2), .box (.t 0), none⟩,
      ⟨(some 3), .box (.t 1), none⟩,
      ⟨(some 4), .mov (.c (.bool false)), none⟩])
  (.keep [2, 3] (.seq (.reg [⟨(some 5), .fieldA 0 (.t 2), none⟩,
      ⟨(some 6), .load 1 false (.t 5), none⟩,
      ⟨(some 7), .fieldA 0 (.t 3), none⟩,
      ⟨(some 8), .load 1 false (.t 7), none⟩,
      ⟨(some 9), .bin .eql (.t 6) (.t 8), none⟩,
      ⟨(some 10), .mov (.t 9), none⟩,
      ⟨(some 11), .fieldA 1 (.t 2), (some (10, true))⟩,
      ⟨(some 12), .load 1 false (.t 11), (some (10, true))⟩,
      ⟨(some 13), .fieldA 1 (.t 3), (some (10, true))⟩,
      ⟨(some 14), .load 1 false (.t 13), (some (10, true))⟩,
      ⟨(some 15), .bin .eql (.t 12) (.t 14), (some (10, true))⟩,
      ⟨(some 16), .pick (.t 10) (.t 15) (.c (.bool false)), none⟩,
      ⟨(some 17), .mov (.t 16), none⟩,
      ⟨(some 18), .fieldA 2 (.t 2), (some (17, true))⟩,
      ⟨(some 19), .load 1 false (.t 18), (some (17, true))⟩,
      ⟨(some 20), .fieldA 2 (.t 3), (some (17, true))⟩,
      ⟨(some 21), .load 1 false (.t 20), (some (17, true))⟩,
      ⟨(some 22), .bin .eql (.t 19) (.t 21), (some (17, true))⟩,
      ⟨(some 23), .pick (.t 17) (.t 22) (.c (.bool false)), none⟩,
      ⟨(some 24), .mov (.t 23), none⟩,
      ⟨(some 25), .fieldA 3 (.t 2), (some (24, true))⟩,
      ⟨(some 26), .load 1 false (.t 25), (some (24, true))⟩,
      ⟨(some 27), .fieldA 3 (.t 3), (some (24, true))⟩,
      ⟨(some 28), .load 1 false (.t 27), (some (24, true))⟩,
      ⟨(some 29), .bin .eql (.t 26) (.t 28), (some (24, true))⟩,
      ⟨(some 30), .pick (.t 24) (.t 29) (.c (.bool false)), none⟩,
      ⟨(some 31), .mov (.t 30), none⟩,
      ⟨(some 32), .fieldA 4 (.t 2), (some (31, true))⟩,
      ⟨(some 33), .load 1 false (.t 32), (some (31, true))⟩,
      ⟨(some 34), .fieldA 4 (.t 3), (some (31, true))⟩,
      ⟨(some 35), .load 1 false (.t 34), (some (31, true))⟩,
      ⟨(some 36), .callF 67 [(.t 33), (.t 35)], (some (31, true))⟩,
      ⟨(some 37), .pick (.t 31) (.t 36) (.c (.bool false)), none⟩,
      ⟨(some 4), .mov (.t 37), none⟩])
  (.ret)))
def a61 : AFun := ⟨2, c61, [.tmp 4]⟩

/- slices.pdqsortCmpFunc[patois/api.File] -/
def c62l0 : ACode :=
  .keep [0, 1, 2, 3, 4, 10, 11] (.block 1 (.seq (.reg [⟨(some 21), .mov (.t 2), none⟩,
      ⟨(some 22), .mov (.t 1), none⟩,
      ⟨(some 23), .bin .sub (.t 21) (.t 22), none⟩,
      ⟨(some 12), .mov (.t 23), none⟩])
    (.keep [0, 1, 2, 3, 4, 10, 11, 12] (.seq (.seq (.reg [⟨(some 24), .mov (.t 12), none⟩,
      ⟨(some 25), .bin .leq (.t 24) (.c (.int .i64 12)), none⟩])
    (.keep [0, 1, 2, 3, 4, 10, 11, 12, 25] (.cond (.t 25)
      (.seq (.reg [⟨(some 26), .mov (.t 0), none⟩,
      ⟨(some 27), .mov (.t 1), none⟩,
      ⟨(some 28), .mov (.t 2), none⟩,
      ⟨(some 29), .mov (.t 4), none⟩,
      ⟨(some 30), .callF 72 [(.t 26), (.t 27), (.t 28), (.t 29)], none⟩])
      (.ret))
      (.skip))))
    (.keep [0, 1, 2, 3, 4, 10, 11, 12] (.seq (.seq (.reg [⟨(some 31), .mov (.t 3), none⟩,
      ⟨(some 32), .bin .eql (.t 31) (.c (.int .i64 0)), none⟩])
    (.keep [0, 1, 2, 3, 4, 10, 11, 12, 32] (.cond (.t 32)
      (.seq (.reg [⟨(some 33), .mov (.t 0), none⟩,
      ⟨(some 34), .mov (.t 1), none⟩,
      ⟨(some 35), .mov (.t 2), none⟩,
      ⟨(some 36), .mov (.t 4), none⟩,
      ⟨(some 37), .callF 73 [(.t 33), (.t 34), (.t 35), (.t 36)], none⟩])
      (.ret))
      (.skip))))
    (.keep [0, 1, 2, 3, 4, 10, 11, 12] (.seq (.seq (.reg [⟨(some 38), .mov (.t 10), none⟩,
      ⟨(some 39), .not (.t 38), none⟩])
    (.keep [0, 1, 2, 3, 4, 10, 11, 12, 39] (.cond (.t 39)
      (.seq (.reg [⟨(some 40), .mov (.t 0), none⟩,
      ⟨(some 41), .mov (.t 1), none⟩,
      ⟨(some 42), .mov (.t 2), none⟩,
      ⟨(some 43), .mov (.t 4), none⟩,
      ⟨(some 44), .callF 74 [(.t 40), (.t 41), (.t 42), (.t 43)], none⟩])
      (.keep [0, 1, 2, 3, 4, 10, 11, 12] (.reg [⟨(some 45), .mov (.t 3), none⟩,
      ⟨(some 46), .bin .sub (.t 45) (.c (.int .i64 1)), none⟩,
      ⟨(some 3), .mov (.t 46), none⟩])))
      (.skip))))
    (.keep [0, 1, 2, 3, 4, 10, 11, 12] (.seq (.reg [⟨(some 48), .mov (.t 0), none⟩,
      ⟨(some 49), .mov (.t 1), none⟩,
      ⟨(some 50), .mov (.t 2), none⟩,
      ⟨(some 51), .mov (.t 4), none⟩,
      ⟨(some 52), .callF 75 [(.t 48), (.t 49), (.t 50), (.t 51)], none⟩,
      ⟨(some 47), .mov (.t 52), none⟩,
      ⟨(some 53), .extract (.t 47) 0, none⟩,
      ⟨(some 54), .extract (.t 47) 1, none⟩,
      ⟨(some 13), .mov (.t 53), none⟩,
      ⟨(some 14), .mov (.t 54), none⟩])
    (.keep [0, 1, 2, 3, 4, 10, 11, 12, 13, 14] (.seq (.seq (.reg [⟨(some 55), .mov (.t 14), none⟩,
      ⟨(some 56), .bin .eql (.t 55) (.c (.int .i64 2)), none⟩])
    (.keep [0, 1, 2, 3, 4, 10, 11, 12, 13, 14, 56] (.cond (.t 56)
      (.seq (.reg [⟨(some 57), .mov (.t 0), none⟩,
      ⟨(some 58), .mov (.t 1), none⟩,
      ⟨(some 59), .mov (.t 2), none⟩,
      ⟨(some 60), .mov (.t 4), none⟩,
      ⟨(some 61), .callF 76 [(.t 57), (.t 58), (.t 59), (.t 60)], none⟩])
      (.keep [0, 1, 2, 3, 4, 10, 11, 12, 13] (.seq (.reg [⟨(some 62), .mov (.t 2), none⟩,
      ⟨(some 63), .bin .sub (.t 62) (.c (.int .i64 1)), none⟩,
      ⟨(some 64), .mov (.t 13), none⟩,
      ⟨(some 65), .mov (.t 1), none⟩,
      ⟨(some 66), .bin .sub (.t 64) (.t 65), none⟩,
      ⟨(some 67), .bin .sub (.t 63) (.t 66), none⟩,
      ⟨(some 13), .mov (.t 67), none⟩])
      (.keep [0, 1, 2, 3, 4, 10, 11, 12, 13] (.reg [⟨(some 14), .mov (.c (.int .i64 1)), none⟩])))))
      (.skip))))
    (.keep [0, 1, 2, 3, 4, 10, 11, 12, 13, 14] (.seq (.seq (.reg [⟨(some 68), .mov (.t 10), none⟩,
      ⟨(some 69), .mov (.t 68), none⟩,
      ⟨(some 70), .mov (.t 11), (some (69, true))⟩,
      ⟨(some 71), .pick (.t 69) (.t 70) (.c (.bool false)), none⟩,
      ⟨(some 72), .mov (.t 71), none⟩,
      ⟨(some 73), .mov (.t 14), (some (72, true))⟩,
      ⟨(some 74), .bin .eql (.t 73) (.c (.int .i64 1)), (some (72, true))⟩,
      ⟨(some 75), .pick (.t 72) (.t 74) (.c (.bool false)), none⟩])
    (.keep [0, 1, 2, 3, 4, 10, 11, 12, 13, 75] (.cond (.t 75)
      (.seq (.reg [⟨(some 76), .mov (.t 0), none⟩,
      ⟨(some 77), .mov (.t 1), none⟩,
      ⟨(some 78), .mov (.t 2), none⟩,
      ⟨(some 79), .mov (.t 4), none⟩,
      ⟨(some 80), .callF 77 [(.t 76), (.t 77), (.t 78), (.t 79)], none⟩])
      (.keep [0, 1, 2, 3, 4, 10, 11, 12, 13, 80] (.cond (.t 80)
        (.ret)
        (.skip))))
      (.skip))))
    (.keep [0, 1, 2, 3, 4, 10, 11, 12, 13] (.seq (.seq (.dreg [⟨0, ⟨(some 81), .mov (.t 1), none⟩, [], []⟩,
      ⟨1, ⟨(some 82), .bin .gtr (.t 81) (.c (.int .i64 0)), none⟩, [0], []⟩,
      ⟨2, ⟨(some 83), .mov (.t 82), none⟩, [0, 1], []⟩,
      ⟨3, ⟨(some 84), .mov (.t 4), (some (83, true))⟩, [0, 1, 2], []⟩,
      ⟨4, ⟨(some 85), .mov (.t 0), (some (83, true))⟩, [0, 1, 2], []⟩,
      ⟨5, ⟨(some 86), .mov (.t 1), (some (83, true))⟩, [0, 1, 2], []⟩,
      ⟨6, ⟨(some 87), .bin .sub (.t 86) (.c (.int .i64 1)), (some (83, true))⟩, [0, 1, 2, 5], []⟩,
      ⟨7, ⟨(some 88), .indexA 2 (.t 85) (.t 87), (some (83, true))⟩, [0, 1, 2, 4, 5, 6], []⟩,
      ⟨8, ⟨(some 89), .load 2 true (.t 88), (some (83, true))⟩, [0, 1, 2, 4, 5, 6, 7], []⟩,
      ⟨9, ⟨(some 90), .mov (.t 0), (some (83, true))⟩, [0, 1, 2], []⟩,
      ⟨10, ⟨(some 91), .mov (.t 13), (some (83, true))⟩, [0, 1, 2], []⟩,
      ⟨11, ⟨(some 92), .indexA 2 (.t 90) (.t 91), (some (83, true))⟩, [0, 1, 2, 9, 10], []⟩,
      ⟨12, ⟨(some 93), .load 2 true (.t 92), (some (83, true))⟩, [0, 1, 2, 9, 10, 11], []⟩,
      ⟨13, ⟨(some 94), .callV (.t 84) [(.t 89), (.t 93)], (some (83, true))⟩, [0, 1, 2, 3, 4, 5, 6, 7, 8, 9, 10, 11, 12], []⟩,
      ⟨14, ⟨(some 95), .bin .lss (.t 94) (.c (.int .i64 0)), (some (83, true))⟩, [0, 1, 2, 3, 4, 5, 6, 7, 8, 9, 10, 11, 12, 13], []⟩,
      ⟨15, ⟨(some 96), .not (.t 95), (some (83, true))⟩, [0, 1, 2, 3, 4, 5, 6, 7, 8, 9, 10, 11, 12, 13, 14], []⟩,
      ⟨16, ⟨(some 97), .pick (.t 83) (.t 96) (.c (.bool false)), none⟩, [0, 1, 2, 3, 4, 5, 6, 7, 8, 9, 10, 11, 12, 13, 14, 15], []⟩])
    (.keep [0, 1, 2, 3, 4, 10, 11, 12, 13, 97] (.cond (.t 97)
      (.seq (.reg [⟨(some 98), .mov (.t 0), none⟩,
      ⟨(some 99), .mov (.t 1), none⟩,
      ⟨(some 100), .mov (.t 2), none⟩,
      ⟨(some 101), .mov (.t 13), none⟩,
      ⟨(some 102), .mov (.t 4), none⟩,
      ⟨(some 103), .callF 78 [(.t 98), (.t 99), (.t 100), (.t 101), (.t 102)], none⟩,
      ⟨(some 15), .mov (.t 103), none⟩])
      (.keep [0, 2, 3, 4, 10, 11, 15] (.seq (.reg [⟨(some 104), .mov (.t 15), none⟩,
      ⟨(some 1), .mov (.t 104), none⟩])
      (.exit 1))))
      (.skip))))
    (.keep [0, 1, 2, 3, 4, 12, 13] (.seq (.reg [⟨(some 106), .mov (.t 0), none⟩,
      ⟨(some 107), .mov (.t 1), none⟩,
      ⟨(some 108), .mov (.t 2), none⟩,
      ⟨(some 109), .mov (.t 13), none⟩,
      ⟨(some 110), .mov (.t 4), none⟩,
      ⟨(some 111), .callF 79 [(.t 106), (.t 107), (.t 108), (.t 109), (.t 110)], none⟩,
      ⟨(some 105), .mov (.t 111), none⟩,
      ⟨(some 112), .extract (.t 105) 0, none⟩,
      ⟨(some 113), .extract (.t 105) 1, none⟩,
      ⟨(some 16), .mov (.t 112), none⟩,
      ⟨(some 17), .mov (.t 113), none⟩])
    (.keep [0, 1, 2, 3, 4, 12, 16, 17] (.seq (.reg [⟨(some 114), .mov (.t 17), none⟩,
      ⟨(some 11), .mov (.t 114), none⟩])
    (.keep [0, 1, 2, 3, 4, 11, 12, 16] (.seq (.reg [⟨(some 115), .mov (.t 16), none⟩,
      ⟨(some 116), .mov (.t 1), none⟩,
      ⟨(some 117), .bin .sub (.t 115) (.t 116), none⟩,
      ⟨(some 118), .mov (.t 2), none⟩,
      ⟨(some 119), .mov (.t 16), none⟩,
      ⟨(some 120), .bin .sub (.t 118) (.t 119), none⟩,
      ⟨(some 18), .mov (.t 117), none⟩,
      ⟨(some 19), .mov (.t 120), none⟩])
    (.keep [0, 1, 2, 3, 4, 11, 12, 16, 18, 19] (.seq (.reg [⟨(some 121), .mov (.t 12), none⟩,
      ⟨(some 122), .bin .quo (.t 121) (.c (.int .i64 8)), none⟩,
      ⟨(some 20), .mov (.t 122), none⟩])
    (.keep [0, 1, 2, 3, 4, 11, 16, 18, 19, 20] (.seq (.reg [⟨(some 123), .mov (.t 18), none⟩,
      ⟨(some 124), .mov (.t 19), none⟩,
      ⟨(some 125), .bin .lss (.t 123) (.t 124), none⟩])
    (.keep [0, 1, 2, 3, 4, 11, 16, 18, 19, 20, 125] (.cond (.t 125)
      (.seq (.reg [⟨(some 126), .mov (.t 18), none⟩,
      ⟨(some 127), .mov (.t 20), none⟩,
      ⟨(some 128), .bin .geq (.t 126) (.t 127), none⟩,
      ⟨(some 10), .mov (.t 128), none⟩])
      (.keep [0, 1, 2, 3, 4, 10, 11, 16] (.seq (.reg [⟨(some 129), .mov (.t 0), none⟩,
      ⟨(some 130), .mov (.t 1), none⟩,
      ⟨(some 131), .mov (.t 16), none⟩,
      ⟨(some 132), .mov (.t 3), none⟩,
      ⟨(some 133), .mov (.t 4), none⟩,
      ⟨(some 134), .callF 62 [(.t 129), (.t 130), (.t 131), (.t 132), (.t 133)], none⟩])
      (.keep [0, 2, 3, 4, 10, 11, 16] (.reg [⟨(some 135), .mov (.t 16), none⟩,
      ⟨(some 136), .bin .add (.t 135) (.c (.int .i64 1)), none⟩,
      ⟨(some 1), .mov (.t 136), none⟩])))))
      (.seq (.reg [⟨(some 137), .mov (.t 19), none⟩,
      ⟨(some 138), .mov (.t 20), none⟩,
      ⟨(some 139), .bin .geq (.t 137) (.t 138), none⟩,
      ⟨(some 10), .mov (.t 139), none⟩])
      (.keep [0, 1, 2, 3, 4, 10, 11, 16] (.seq (.reg [⟨(some 140), .mov (.t 0), none⟩,
      ⟨(some 141), .mov (.t 16), none⟩,
      ⟨(some 142), .bin .add (.t 141) (.c (.int .i64 1)), none⟩,
      ⟨(some 143), .mov (.t 2), none⟩,
      ⟨(some 144), .mov (.t 3), none⟩,
      ⟨(some 145), .mov (.t 4), none⟩,
      ⟨(some 146), .callF 62 [(.t 140), (.t 142), (.t 143), (.t 144), (.t 145)], none⟩])
      (.keep [0, 1, 3, 4, 10, 11, 16] (.reg [⟨(some 147), .mov (.t 16), none⟩,
      ⟨(some 2), .mov (.t 147), none⟩])))))))))))))))))))))))))))))))))
def c62 : ACode :=
  .seq (.reg [⟨(some 10), .mov (.c (.bool true)), none⟩])
  (.keep [0, 1, 2, 3, 4, 10] (.seq (.reg [⟨(some 11), .mov (.c (.bool true)), none⟩])
  (.keep [0, 1, 2, 3, 4, 10, 11] (.block 0 (.loop c62l0)))))
def a62 : AFun := ⟨5, c62, []⟩

/- math/bits.Len -/
def c63 : ACode :=
  .seq (.reg [⟨(some 2), .mov (.c (.int .i64 0)), none⟩])
  (.keep [0] (.seq (.cond (.c (.bool false))
    (.seq (.reg [⟨(some 3), .mov (.t 0), none⟩,
      ⟨(some 4), .conv .u32 (.t 3), none⟩,
      ⟨(some 5), .callF 80 [(.t 4)], none⟩,
      ⟨(some 2), .mov (.t 5), none⟩])
    (.ret))
    (.skip))
  (.keep [0] (.seq (.reg [⟨(some 6), .mov (.t 0), none⟩,
      ⟨(some 7), .callF 81 [(.t 6)], none⟩,
      ⟨(some 2), .mov (.t 7), none⟩])
  (.ret)))))
def a63 : AFun := ⟨1, c63, [.tmp 2]⟩

/- strings.Compare -/
def c64 : ACode :=
  .seq (.reg [⟨(some 4), .mov (.c (.int .i64 0)), none⟩])
  (.keep [0, 1] (.seq (.reg [⟨(some 5), .mov (.t 0), none⟩,
      ⟨(some 6), .mov (.t 1), none⟩,
      ⟨(some 7), .callF 82 [(.t 5), (.t 6)], none⟩,
      ⟨(some 4), .mov (.t 7), none⟩])
  (.ret)))
def a64 : AFun := ⟨2, c64, [.tmp 4]⟩

/- slices.BinarySearchFunc[[]patois/api.File,patois/api.File,patois/api.File] -/
def c65l0 : ACode :=
  .keep [0, 2, 4, 8, 9, 10] (.seq (.seq (.reg [⟨(some 15), .mov (.t 9), none⟩,
      ⟨(some 16), .mov (.t 10), none⟩,
      ⟨(some 17), .bin .lss (.t 15) (.t 16), none⟩])
  (.keep [0, 2, 4, 8, 9, 10, 17] (.cond (.t 17)
    (.skip)
    (.exit 0))))
  (.keep [0, 2, 4, 8, 9, 10] (.block 1 (.seq (.reg [⟨(some 18), .mov (.t 9), none⟩,
      ⟨(some 19), .mov (.t 10), none⟩,
      ⟨(some 20), .bin .add (.t 18) (.t 19), none⟩,
      ⟨(some 21), .conv .u64 (.t 20), none⟩,
      ⟨(some 22), .bin .shr (.t 21) (.c (.int .u64 1)), none⟩,
      ⟨(some 23), .conv .i64 (.t 22), none⟩,
      ⟨(some 11), .mov (.t 23), none⟩])
    (.keep [0, 2, 4, 8, 9, 10, 11] (.seq (.dreg [⟨0, ⟨(some 24), .mov (.t 2), none⟩, [], []⟩,
      ⟨1, ⟨(some 25), .mov (.t 0), none⟩, [], []⟩,
      ⟨2, ⟨(some 26), .mov (.t 11), none⟩, [], []⟩,
      ⟨3, ⟨(some 27), .indexA 2 (.t 25) (.t 26), none⟩, [1, 2], []⟩,
      ⟨4, ⟨(some 28), .load 2 true (.t 27), none⟩, [1, 2, 3], []⟩,
      ⟨5, ⟨(some 29), .load 2 true (.t 4), none⟩, [], []⟩,
      ⟨6, ⟨(some 30), .callV (.t 24) [(.t 28), (.t 29)], none⟩, [0, 1, 2, 3, 4, 5], []⟩,
      ⟨7, ⟨(some 31), .bin .lss (.t 30) (.c (.int .i64 0)), none⟩, [0, 1, 2, 3, 4, 5, 6], []⟩])
    (.keep [0, 2, 4, 8, 9, 10, 11, 31] (.cond (.t 31)
      (.reg [⟨(some 32), .mov (.t 11), none⟩,
      ⟨(some 33), .bin .add (.t 32) (.c (.int .i64 1)), none⟩,
      ⟨(some 9), .mov (.t 33), none⟩])
      (.reg [⟨(some 34), .mov (.t 11), none⟩,
      ⟨(some 10), .mov (.t 34), none⟩])))))))))
def c65 : ACode :=
  .seq (.reg [⟨(some 4), .box (.t 1), none⟩,
      ⟨(some 6), .mov (.c (.int .i64 0)), none⟩,
      ⟨(some 7), .mov (.c (.bool false)), none⟩])
  (.keep [0, 2, 4] (.seq (.reg [⟨(some 12), .mov (.t 0), none⟩,
      ⟨(some 13), .len false (.t 12), none⟩,
      ⟨(some 8), .mov (.t 13), none⟩])
  (.keep [0, 2, 4, 8] (.seq (.reg [⟨(some 14), .mov (.t 8), none⟩,
      ⟨(some 9), .mov (.c (.int .i64 0)), none⟩,
      ⟨(some 10), .mov (.t 14), none⟩])
  (.keep [0, 2, 4, 8, 9, 10] (.seq (.block 0 (.loop c65l0))
  (.keep [0, 2, 4, 8, 9] (.seq (.dreg [⟨0, ⟨(some 35), .mov (.t 9), none⟩, [], []⟩,
      ⟨1, ⟨(some 36), .mov (.t 9), none⟩, [], []⟩,
      ⟨2, ⟨(some 37), .mov (.t 8), none⟩, [], []⟩,
      ⟨3, ⟨(some 38), .bin .lss (.t 36) (.t 37), none⟩, [1, 2], []⟩,
      ⟨4, ⟨(some 39), .mov (.t 38), none⟩, [1, 2, 3], []⟩,
      ⟨5, ⟨(some 40), .mov (.t 2), (some (39, true))⟩, [1, 2, 3, 4], []⟩,
      ⟨6, ⟨(some 41), .mov (.t 0), (some (39, true))⟩, [1, 2, 3, 4], []⟩,
      ⟨7, ⟨(some 42), .mov (.t 9), (some (39, true))⟩, [1, 2, 3, 4], []⟩,
      ⟨8, ⟨(some 43), .indexA 2 (.t 41) (.t 42), (some (39, true))⟩, [1, 2, 3, 4, 6, 7], []⟩,
      ⟨9, ⟨(some 44), .load 2 true (.t 43), (some (39, true))⟩, [1, 2, 3, 4, 6, 7, 8], []⟩,
      ⟨10, ⟨(some 45), .load 2 true (.t 4), (some (39, true))⟩, [1, 2, 3, 4], []⟩,
      ⟨11, ⟨(some 46), .callV (.t 40) [(.t 44), (.t 45)], (some (39, true))⟩, [1, 2, 3, 4, 5, 6, 7, 8, 9, 10], []⟩,
      ⟨12, ⟨(some 47), .bin .eql (.t 46) (.c (.int .i64 0)), (some (39, true))⟩, [1, 2, 3, 4, 5, 6, 7, 8, 9, 10, 11], []⟩,
      ⟨13, ⟨(some 48), .pick (.t 39) (.t 47) (.c (.bool false)), none⟩, [1, 2, 3, 4, 5, 6, 7, 8, 9, 10, 11, 12], []⟩,
      ⟨14, ⟨(some 6), .mov (.t 35), none⟩, [0, 1, 2, 3, 4, 5, 6, 7, 8, 9, 10, 11], []⟩,
      ⟨15, ⟨(some 7), .mov (.t 48), none⟩, [0, 1, 2, 3, 4, 5, 6, 7, 8, 9, 10, 11, 12, 13, 14], []⟩])
  (.ret)))))))))
def a65 : AFun := ⟨3, c65, [.tmp 6, .tmp 7]⟩

/- slices.Insert[[]patois/api.File,patois/api.File] (not covered: builtin cap) -/
def c66 : ACode :=
  .seq (.reg [⟨(some 6), .mov (.c (.sl none 1 0 (some 0))), none⟩])
  (.keep [0, 1, 2] (.seq (.reg [⟨(some 10), .mov (.t 0), none⟩,
      ⟨(some 11), .mov (.t 1), none⟩,
      ⟨(some 12), .slc 2 (.t 10) (some (.t 11)) none, none⟩])
  (.keep [0, 1, 2] (.seq (.reg [⟨(some 13), .mov (.t 2), none⟩,
      ⟨(some 14), .len false (.t 13), none⟩,
      ⟨(some 7), .mov (.t 14), none⟩])
  (.keep [0, 1, 2, 7] (.seq (.seq (.reg [⟨(some 15), .mov (.t 7), none⟩,
      ⟨(some 16), .bin .eql (.t 15) (.c (.int .i64 0)), none⟩])
  (.keep [0, 1, 2, 7, 16] (.cond (.t 16)
    (.seq (.reg [⟨(some 17), .mov (.t 0), none⟩,
      ⟨(some 6), .mov (.t 17), none⟩])
    (.ret))
    (.skip))))
  (.keep [0, 1, 2, 7] (.seq (.reg [⟨(some 18), .mov (.t 0), none⟩,
      ⟨(some 19), .len false (.t 18), none⟩,
      ⟨(some 8), .mov (.t 19), none⟩])
  (.keep [0, 1, 2, 7, 8] (.seq (.seq (.reg [⟨(some 20), .mov (.t 1), none⟩,
      ⟨(some 21), .mov (.t 8), none⟩,
      ⟨(some 22), .bin .eql (.t 20) (.t 21), none⟩])
  (.keep [0, 1, 2, 7, 8, 22] (.cond (.t 22)
    (.seq (.reg [⟨(some 23), .mov (.t 0), none⟩,
      ⟨(some 24), .mov (.t 2), none⟩,
      ⟨(some 25), .append 2 32 (.t 23) (.t 24), none⟩,
      ⟨(some 6), .mov (.t 25), none⟩])
    (.ret))
    (.skip))))
  (.keep [0, 1, 2, 7, 8] (.bad))))))))))))
def a66 : AFun := ⟨3, c66, [.tmp 6]⟩

/- slices.Equal[[]string,string] -/
def c67l0 : ACode :=
  .keep [0, 1, 12, 13] (.seq (.reg [⟨(some 14), .bin .lss (.t 13) (.t 12), none⟩])
  (.keep [0, 1, 12, 13, 14] (.seq (.cond (.t 14)
    (.skip)
    (.exit 0))
  (.keep [0, 1, 12, 13] (.seq (.block 1 (.seq (.reg [⟨(some 15), .mov (.t 13), none⟩,
      ⟨(some 5), .mov (.t 15), none⟩])
    (.keep [0, 1, 5, 12, 13] (.seq (.dreg [⟨0, ⟨(some 16), .mov (.t 0), none⟩, [], []⟩,
      ⟨1, ⟨(some 17), .mov (.t 5), none⟩, [], []⟩,
      ⟨2, ⟨(some 18), .indexA 1 (.t 16) (.t 17), none⟩, [0, 1], []⟩,
      ⟨3, ⟨(some 19), .load 1 false (.t 18), none⟩, [0, 1, 2], []⟩,
      ⟨4, ⟨(some 20), .mov (.t 1), none⟩, [], []⟩,
      ⟨5, ⟨(some 21), .mov (.t 5), none⟩, [], []⟩,
      ⟨6, ⟨(some 22), .indexA 1 (.t 20) (.t 21), none⟩, [4, 5], []⟩,
      ⟨7, ⟨(some 23), .load 1 false (.t 22), none⟩, [4, 5, 6], []⟩,
      ⟨8, ⟨(some 24), .bin .neq (.t 19) (.t 23), none⟩, [0, 1, 2, 3, 4, 5, 6, 7], []⟩])
    (.keep [0, 1, 12, 13, 24] (.cond (.t 24)
      (.seq (.reg [⟨(some 4), .mov (.c (.bool false)), none⟩])
      (.ret))
      (.skip)))))))
  (.keep [0, 1, 12, 13] (.reg [⟨(some 25), .bin .add (.t 13) (.c (.int .i64 1)), none⟩,
      ⟨(some 13), .mov (.t 25), none⟩])))))))
def c67 : ACode :=
  .seq (.reg [⟨(some 4), .mov (.c (.bool false)), none⟩])
  (.keep [0, 1] (.seq (.seq (.reg [⟨(some 6), .mov (.t 0), none⟩,
      ⟨(some 7), .len false (.t 6), none⟩,
      ⟨(some 8), .mov (.t 1), none⟩,
      ⟨(some 9), .len false (.t 8), none⟩,
      ⟨(some 10), .bin .neq (.t 7) (.t 9), none⟩])
  (.keep [0, 1, 10] (.cond (.t 10)
    (.seq (.reg [⟨(some 4), .mov (.c (.bool false)), none⟩])
    (.ret))
    (.skip))))
  (.keep [0, 1] (.seq (.seq (.reg [⟨(some 11), .mov (.t 0), none⟩,
      ⟨(some 12), .len false (.t 11), none⟩,
      ⟨(some 13), .mov (.c (.int .i64 0)), none⟩])
  (.keep [0, 1, 12, 13] (.block 0 (.loop c67l0))))
  (.keep [] (.seq (.reg [⟨(some 4), .mov (.c (.bool true)), none⟩])
  (.ret)))))))
def a67 : AFun := ⟨2, c67, [.tmp 4]⟩

/- slices.IndexFunc[[]patois/api.Event,patois/api.Event] -/
def c68l0 : ACode :=
  .keep [0, 1, 7, 8] (.seq (.reg [⟨(some 9), .bin .lss (.t 8) (.t 7), none⟩])
  (.keep [0, 1, 7, 8, 9] (.seq (.cond (.t 9)
    (.skip)
    (.exit 0))
  (.keep [0, 1, 7, 8] (.seq (.block 1 (.seq (.reg [⟨(some 10), .mov (.t 8), none⟩,
      ⟨(some 5), .mov (.t 10), none⟩])
    (.keep [0, 1, 5, 7, 8] (.seq (.reg [⟨(some 11), .mov (.t 1), none⟩,
      ⟨(some 12), .mov (.t 0), none⟩,
      ⟨(some 13), .mov (.t 5), none⟩,
      ⟨(some 14), .indexA 5 (.t 12) (.t 13), none⟩,
      ⟨(some 15), .load 5 true (.t 14), none⟩,
      ⟨(some 16), .callV (.t 11) [(.t 15)], none⟩])
    (.keep [0, 1, 5, 7, 8, 16] (.cond (.t 16)
      (.seq (.reg [⟨(some 17), .mov (.t 5), none⟩,
      ⟨(some 4), .mov (.t 17), none⟩])
      (.ret))
      (.skip)))))))
  (.keep [0, 1, 7, 8] (.reg [⟨(some 18), .bin .add (.t 8) (.c (.int .i64 1)), none⟩,
      ⟨(some 8), .mov (.t 18), none⟩])))))))
def c68 : ACode :=
  .seq (.reg [⟨(some 4), .mov (.c (.int .i64 0)), none⟩])
  (.keep [0, 1] (.seq (.seq (.reg [⟨(some 6), .mov (.t 0), none⟩,
      ⟨(some 7), .len false (.t 6), none⟩,
      ⟨(some 8), .mov (.c (.int .i64 0)), none⟩])
  (.keep [0, 1, 7, 8] (.block 0 (.loop c68l0))))
  (.keep [] (.seq (.reg [⟨(some 4), .mov (.c (.int .i64 (-1))), none⟩])
  (.ret)))))
def a68 : AFun := ⟨2, c68, [.tmp 4]⟩

/- slices.IndexFunc[[]string,string] -/
def c71l0 : ACode :=
  .keep [0, 1, 7, 8] (.seq (.reg [⟨(some 9), .bin .lss (.t 8) (.t 7), none⟩])
  (.keep [0, 1, 7, 8, 9] (.seq (.cond (.t 9)
    (.skip)
    (.exit 0))
  (.keep [0, 1, 7, 8] (.seq (.block 1 (.seq (.reg [⟨(some 10), .mov (.t 8), none⟩,
      ⟨(some 5), .mov (.t 10), none⟩])
    (.keep [0, 1, 5, 7, 8] (.seq (.reg [⟨(some 11), .mov (.t 1), none⟩,
      ⟨(some 12), .mov (.t 0), none⟩,
      ⟨(some 13), .mov (.t 5), none⟩,
      ⟨(some 14), .indexA 1 (.t 12) (.t 13), none⟩,
      ⟨(some 15), .load 1 false (.t 14), none⟩,
      ⟨(some 16), .callV (.t 11) [(.t 15)], none⟩])
    (.keep [0, 1, 5, 7, 8, 16] (.cond (.t 16)
      (.seq (.reg [⟨(some 17), .mov (.t 5), none⟩,
      ⟨(some 4), .mov (.t 17), none⟩])
      (.ret))
      (.skip)))))))
  (.keep [0, 1, 7, 8] (.reg [⟨(some 18), .bin .add (.t 8) (.c (.int .i64 1)), none⟩,
      ⟨(some 8), .mov (.t 18), none⟩])))))))
def c71 : ACode :=
  .seq (.reg [⟨(some 4), .mov (.c (.int .i64 0)), none⟩])
  (.keep [0, 1] (.seq (.seq (.reg [⟨(some 6), .mov (.t 0), none⟩,
      ⟨(some 7), .len false (.t 6), none⟩,
      ⟨(some 8), .mov (.c (.int .i64 0)), none⟩])
  (.keep [0, 1, 7, 8] (.block 0 (.loop c71l0))))
  (.keep [] (.seq (.reg [⟨(some 4), .mov (.c (.int .i64 (-1))), none⟩])
  (.ret)))))
def a71 : AFun := ⟨2, c71, [.tmp 4]⟩

/- slices.insertionSortCmpFunc[patois/api.File] -/
def c72l0 : ACode :=
  .keep [0, 1, 2, 3, 8, 9] (.seq (.seq (.dreg [⟨0, ⟨(some 18), .mov (.t 9), none⟩, [], []⟩,
      ⟨1, ⟨(some 19), .mov (.t 1), none⟩, [], []⟩,
      ⟨2, ⟨(some 20), .bin .gtr (.t 18) (.t 19), none⟩, [0, 1], []⟩,
      ⟨3, ⟨(some 21), .mov (.t 20), none⟩, [0, 1, 2], []⟩,
      ⟨4, ⟨(some 22), .mov (.t 3), (some (21, true))⟩, [0, 1, 2, 3], []⟩,
      ⟨5, ⟨(some 23), .mov (.t 0), (some (21, true))⟩, [0, 1, 2, 3], []⟩,
      ⟨6, ⟨(some 24), .mov (.t 9), (some (21, true))⟩, [0, 1, 2, 3], []⟩,
      ⟨7, ⟨(some 25), .indexA 2 (.t 23) (.t 24), (some (21, true))⟩, [0, 1, 2, 3, 5, 6], []⟩,
      ⟨8, ⟨(some 26), .load 2 true (.t 25), (some (21, true))⟩, [0, 1, 2, 3, 5, 6, 7], []⟩,
      ⟨9, ⟨(some 27), .mov (.t 0), (some (21, true))⟩, [0, 1, 2, 3], []⟩,
      ⟨10, ⟨(some 28), .mov (.t 9), (some (21, true))⟩, [0, 1, 2, 3], []⟩,
      ⟨11, ⟨(some 29), .bin .sub (.t 28) (.c (.int .i64 1)), (some (21, true))⟩, [0, 1, 2, 3, 10], []⟩,
      ⟨12, ⟨(some 30), .indexA 2 (.t 27) (.t 29), (some (21, true))⟩, [0, 1, 2, 3, 9, 10, 11], []⟩,
      ⟨13, ⟨(some 31), .load 2 true (.t 30), (some (21, true))⟩, [0, 1, 2, 3, 9, 10, 11, 12], []⟩,
      ⟨14, ⟨(some 32), .callV (.t 22) [(.t 26), (.t 31)], (some (21, true))⟩, [0, 1, 2, 3, 4, 5, 6, 7, 8, 9, 10, 11, 12, 13], []⟩,
      ⟨15, ⟨(some 33), .bin .lss (.t 32) (.c (.int .i64 0)), (some (21, true))⟩, [0, 1, 2, 3, 4, 5, 6, 7, 8, 9, 10, 11, 12, 13, 14], []⟩,
      ⟨16, ⟨(some 34), .pick (.t 21) (.t 33) (.c (.bool false)), none⟩, [0, 1, 2, 3, 4, 5, 6, 7, 8, 9, 10, 11, 12, 13, 14, 15], []⟩])
  (.keep [0, 1, 2, 3, 8, 9, 34] (.cond (.t 34)
    (.skip)
    (.exit 2))))
  (.keep [0, 1, 2, 3, 8, 9] (.seq (.block 3 (.dreg [⟨0, ⟨(some 37), .mov (.t 0), none⟩, [], []⟩,
      ⟨1, ⟨(some 38), .mov (.t 9), none⟩, [], []⟩,
      ⟨2, ⟨(some 39), .mov (.t 0), none⟩, [], []⟩,
      ⟨3, ⟨(some 40), .mov (.t 9), none⟩, [], []⟩,
      ⟨4, ⟨(some 41), .bin .sub (.t 40) (.c (.int .i64 1)), none⟩, [3], []⟩,
      ⟨5, ⟨(some 42), .mov (.t 0), none⟩, [], []⟩,
      ⟨6, ⟨(some 43), .mov (.t 9), none⟩, [], []⟩,
      ⟨7, ⟨(some 44), .bin .sub (.t 43) (.c (.int .i64 1)), none⟩, [6], []⟩,
      ⟨8, ⟨(some 45), .indexA 2 (.t 42) (.t 44), none⟩, [5, 6, 7], []⟩,
      ⟨9, ⟨(some 46), .load 2 true (.t 45), none⟩, [5, 6, 7, 8], []⟩,
      ⟨10, ⟨(some 47), .mov (.t 0), none⟩, [], []⟩,
      ⟨11, ⟨(some 48), .mov (.t 9), none⟩, [], []⟩,
      ⟨12, ⟨(some 49), .indexA 2 (.t 47) (.t 48), none⟩, [10, 11], []⟩,
      ⟨13, ⟨(some 50), .load 2 true (.t 49), none⟩, [10, 11, 12], []⟩,
      ⟨14, ⟨(some 51), .indexA 2 (.t 37) (.t 38), none⟩, [0, 1, 5, 6, 7, 8, 9, 10, 11, 12, 13], []⟩,
      ⟨15, ⟨none, .store 2 (.t 51) (.t 46), none⟩, [0, 1, 5, 6, 7, 8, 9, 10, 11, 12, 13, 14], []⟩,
      ⟨16, ⟨(some 52), .indexA 2 (.t 39) (.t 41), none⟩, [0, 1, 2, 3, 4, 5, 6, 7, 8, 9, 10, 11, 12, 13, 14, 15], []⟩,
      ⟨17, ⟨none, .store 2 (.t 52) (.t 50), none⟩, [0, 1, 2, 3, 4, 5, 6, 7, 8, 9, 10, 11, 12, 13, 14, 15, 16], []⟩]))
  (.keep [0, 1, 2, 3, 8, 9] (.reg [⟨(some 35), .mov (.t 9), none⟩,
      ⟨(some 36), .bin .sub (.t 35) (.c (.int .i64 1)), none⟩,
      ⟨(some 9), .mov (.t 36), none⟩])))))
def c72l1 : ACode :=
  .keep [0, 1, 2, 3, 8] (.seq (.seq (.reg [⟨(some 12), .mov (.t 8), none⟩,
      ⟨(some 13), .mov (.t 2), none⟩,
      ⟨(some 14), .bin .lss (.t 12) (.t 13), none⟩])
  (.keep [0, 1, 2, 3, 8, 14] (.cond (.t 14)
    (.skip)
    (.exit 0))))
  (.keep [0, 1, 2, 3, 8] (.seq (.block 1 (.seq (.reg [⟨(some 17), .mov (.t 8), none⟩,
      ⟨(some 9), .mov (.t 17), none⟩])
    (.keep [0, 1, 2, 3, 8, 9] (.block 2 (.loop c72l0)))))
  (.keep [0, 1, 2, 3, 8] (.reg [⟨(some 15), .mov (.t 8), none⟩,
      ⟨(some 16), .bin .add (.t 15) (.c (.int .i64 1)), none⟩,
      ⟨(some 8), .mov (.t 16), none⟩])))))
def c72 : ACode :=
  .seq (.reg [⟨(some 10), .mov (.t 1), none⟩,
      ⟨(some 11), .bin .add (.t 10) (.c (.int .i64 1)), none⟩,
      ⟨(some 8), .mov (.t 11), none⟩])
  (.keep [0, 1, 2, 3, 8] (.block 0 (.loop c72l1)))
def a72 : AFun := ⟨4, c72, []⟩

/- math/bits.Len32 -/
def c80 : ACode :=
  .seq (.reg [⟨(some 2), .mov (.c (.int .i64 0)), none⟩])
  (.keep [0, 2] (.seq (.seq (.reg [⟨(some 3), .mov (.t 0), none⟩,
      ⟨(some 4), .bin .geq (.t 3) (.c (.int .u32 65536)), none⟩])
  (.keep [0, 2, 4] (.cond (.t 4)
    (.seq (.reg [⟨(some 5), .mov (.t 0), none⟩,
      ⟨(some 6), .bin .shr (.t 5) (.c (.int .u64 16)), none⟩,
      ⟨(some 0), .mov (.t 6), none⟩])
    (.keep [0] (.reg [⟨(some 2), .mov (.c (.int .i64 16)), none⟩])))
    (.skip))))
  (.keep [0, 2] (.seq (.seq (.reg [⟨(some 7), .mov (.t 0), none⟩,
      ⟨(some 8), .bin .geq (.t 7) (.c (.int .u32 256)), none⟩])
  (.keep [0, 2, 8] (.cond (.t 8)
    (.seq (.reg [⟨(some 9), .mov (.t 0), none⟩,
      ⟨(some 10), .bin .shr (.t 9) (.c (.int .u64 8)), none⟩,
      ⟨(some 0), .mov (.t 10), none⟩])
    (.keep [0, 2] (.reg [⟨(some 11), .mov (.t 2), none⟩,
      ⟨(some 12), .bin .add (.t 11) (.c (.int .i64 8)), none⟩,
      ⟨(some 2), .mov (.t 12), none⟩])))
    (.skip))))
  (.keep [0, 2] (.seq (.reg [⟨(some 13), .mov (.t 2), none⟩,
      ⟨(some 14), .mov (.t 0), none⟩,
      ⟨(some 15), .conv .u8 (.t 14), none⟩,
      ⟨(some 16), .index (.c (.str [0, 1, 2, 2, 3, 3, 3, 3, 4, 4, 4, 4, 4, 4, 4, 4, 5, 5, 5, 5, 5, 5, 5, 5, 5, 5, 5, 5, 5, 5, 5, 5, 6, 6, 6, 6, 6, 6, 6, 6, 6, 6, 6, 6, 6, 6, 6, 6, 6, 6, 6, 6, 6, 6, 6, 6, 6, 6, 6, 6, 6, 6, 6, 6, 7, 7, 7, 7, 7, 7, 7, 7, 7, 7, 7, 7, 7, 7, 7, 7, 7, 7, 7, 7, 7, 7, 7, 7, 7, 7, 7, 7, 7, 7, 7, 7, 7, 7, 7, 7, 7, 7, 7, 7, 7, 7, 7, 7, 7, 7, 7, 7, 7, 7, 7, 7, 7, 7, 7, 7, 7, 7, 7, 7, 7, 7, 7, 7, 8, 8, 8, 8, 8, 8, 8, 8, 8, 8, 8, 8, 8, 8, 8, 8, 8, 8, 8, 8, 8, 8, 8, 8, 8, 8, 8, 8, 8, 8, 8, 8, 8, 8, 8, 8, 8, 8, 8, 8, 8, 8, 8, 8, 8, 8, 8, 8, 8, 8, 8, 8, 8, 8, 8, 8, 8, 8, 8, 8, 8, 8, 8, 8, 8, 8, 8, 8, 8, 8, 8, 8, 8, 8, 8, 8, 8, 8, 8, 8, 8, 8, 8, 8, 8, 8, 8, 8, 8, 8, 8, 8, 8, 8, 8, 8, 8, 8, 8, 8, 8, 8, 8, 8, 8, 8, 8, 8, 8, 8, 8, 8, 8, 8, 8, 8, 8, 8, 8, 8, 8, 8, 8, 8, 8, 8, 8, 8])) (.t 15), none⟩,
      ⟨(some 17), .conv .i64 (.t 16), none⟩,
      ⟨(some 18), .bin .add (.t 13) (.t 17), none⟩,
      ⟨(some 2), .mov (.t 18), none⟩])
  (.ret)))))))
def a80 : AFun := ⟨1, c80, [.tmp 2]⟩

/- math/bits.Len64 -/
def c81 : ACode :=
  .seq (.reg [⟨(some 2), .mov (.c (.int .i64 0)), none⟩])
  (.keep [0, 2] (.seq (.seq (.reg [⟨(some 3), .mov (.t 0), none⟩,
      ⟨(some 4), .bin .geq (.t 3) (.c (.int .u64 4294967296)), none⟩])
  (.keep [0, 2, 4] (.cond (.t 4)
    (.seq (.reg [⟨(some 5), .mov (.t 0), none⟩,
      ⟨(some 6), .bin .shr (.t 5) (.c (.int .u64 32)), none⟩,
      ⟨(some 0), .mov (.t 6), none⟩])
    (.keep [0] (.reg [⟨(some 2), .mov (.c (.int .i64 32)), none⟩])))
    (.skip))))
  (.keep [0, 2] (.seq (.seq (.reg [⟨(some 7), .mov (.t 0), none⟩,
      ⟨(some 8), .bin .geq (.t 7) (.c (.int .u64 65536)), none⟩])
  (.keep [0, 2, 8] (.cond (.t 8)
    (.seq (.reg [⟨(some 9), .mov (.t 0), none⟩,
      ⟨(some 10), .bin .shr (.t 9) (.c (.int .u64 16)), none⟩,
      ⟨(some 0), .mov (.t 10), none⟩])
    (.keep [0, 2] (.reg [⟨(some 11), .mov (.t 2), none⟩,
      ⟨(some 12), .bin .add (.t 11) (.c (.int .i64 16)), none⟩,
      ⟨(some 2), .mov (.t 12), none⟩])))
    (.skip))))
  (.keep [0, 2] (.seq (.seq (.reg [⟨(some 13), .mov (.t 0), none⟩,
      ⟨(some 14), .bin .geq (.t 13) (.c (.int .u64 256)), none⟩])
  (.keep [0, 2, 14] (.cond (.t 14)
    (.seq (.reg [⟨(some 15), .mov (.t 0), none⟩,
      ⟨(some 16), .bin .shr (.t 15) (.c (.int .u64 8)), none⟩,
      ⟨(some 0), .mov (.t 16), none⟩])
    (.keep [0, 2] (.reg [⟨(some 17), .mov (.t 2), none⟩,
      ⟨(some 18), .bin .add (.t 17) (.c (.int .i64 8)), none⟩,
      ⟨(some 2), .mov (.t 18), none⟩])))
    (.skip))))
  (.keep [0, 2] (.seq (.reg [⟨(some 19), .mov (.t 2), none⟩,
      ⟨(some 20), .mov (.t 0), none⟩,
      ⟨(some 21), .conv .u8 (.t 20), none⟩,
      ⟨(some 22), .index (.c (.str [0, 1, 2, 2, 3, 3, 3, 3, 4, 4, 4, 4, 4, 4, 4, 4, 5, 5, 5, 5, 5, 5, 5, 5, 5, 5, 5, 5, 5, 5, 5, 5, 6, 6, 6, 6, 6, 6, 6, 6, 6, 6, 6, 6, 6, 6, 6, 6, 6, 6, 6, 6, 6, 6, 6, 6, 6, 6, 6, 6, 6, 6, 6, 6, 7, 7, 7, 7, 7, 7, 7, 7, 7, 7, 7, 7, 7, 7, 7, 7, 7, 7, 7, 7, 7, 7, 7, 7, 7, 7, 7, 7, 7, 7, 7, 7, 7, 7, 7, 7, 7, 7, 7, 7, 7, 7, 7, 7, 7, 7, 7, 7, 7, 7, 7, 7, 7, 7, 7, 7, 7, 7, 7, 7, 7, 7, 7, 7, 8, 8, 8, 8, 8, 8, 8, 8, 8, 8, 8, 8, 8, 8, 8, 8, 8, 8, 8, 8, 8, 8, 8, 8, 8, 8, 8, 8, 8, 8, 8, 8, 8, 8, 8, 8, 8, 8, 8, 8, 8, 8, 8, 8, 8, 8, 8, 8, 8, 8, 8, 8, 8, 8, 8, 8, 8, 8, 8, 8, 8, 8, 8, 8, 8, 8, 8, 8, 8, 8, 8, 8, 8, 8, 8, 8, 8, 8, 8, 8, 8, 8, 8, 8, 8, 8, 8, 8, 8, 8, 8, 8, 8, 8, 8, 8, 8, 8, 8, 8, 8, 8, 8, 8, 8, 8, 8, 8, 8, 8, 8, 8, 8, 8, 8, 8, 8, 8, 8, 8, 8, 8, 8, 8, 8, 8, 8, 8])) (.t 21), none⟩,
      ⟨(some 23), .conv .i64 (.t 22), none⟩,
      ⟨(some 24), .bin .add (.t 19) (.t 23), none⟩,
      ⟨(some 2), .mov (.t 24), none⟩])
  (.ret)))))))))
def a81 : AFun := ⟨1, c81, [.tmp 2]⟩

end Go.Proofs.YtlecbjcloleiiaaDoor.Ram
