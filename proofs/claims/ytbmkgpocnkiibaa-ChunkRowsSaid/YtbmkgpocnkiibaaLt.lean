/- The light code of this seat's functions, locals by name (written by light2.py of the prover's own tools). -/
import Derived.Test.YtbmkgpocnkiibaaChecked
import Derived.Test.YtbmkgpocnkiibaaB3
import Derived.KernelRfl
namespace Go.Proofs.Ytbmkgpocnkiibaa.Lt
open Go.Proofs.YtbmkgpocnkiibaaW.Abs
set_option linter.unusedVariables false
set_option maxRecDepth 100000

noncomputable abbrev C : Ctx := ctxOf Go.Proofs.Try.prog []
theorem cok : C.Ok Go.Proofs.Try.prog := ctxOf_ok (by kernel_rfl) (fun f hf => by cases hf)

/-- scarf/scarflaw17.ChunkCovers -- 0: box t20 -/
def F3l0 : S2 :=
  (.seq (.seq (.ops 4 [⟨0, (.some 48), .none, (.o (.s (.mv (.t 19))))⟩, ⟨1, (.some 49), .none, (.o (.s (.mv (.t 14))))⟩, ⟨2, (.some 50), .none, (.o (.s (.len (.t 49))))⟩,
    ⟨3, (.some 51), .none, (.o (.s (.bin .lss (.t 48) (.t 50))))⟩]) (.cond (.t 51) .skip (.exit 0))) (.seq (.block 1 (.seq (.ops 6 [⟨0, (.some 54), .none,
    (.o (.s (.mv (.t 14))))⟩, ⟨1, (.some 55), .none, (.o (.s (.mv (.t 19))))⟩, ⟨2, (.some 56), .none, (.o (.s (.ia 7 (.t 54) (.t 55))))⟩, ⟨3, (.some 57), .none,
    (.o (.s (.load (.some 7) (.t 56))))⟩, ⟨4, (.some 20), .none, (.lalloc 0 33 [(.int .i64 (0)), (.int .i64 (0)), (.int .i64 (0)), (.int .i64 (0)), (.int .i64 (0)),
    (.int .i64 (0)), (.int .i64 (0))])⟩, ⟨5, .none, .none, (.lstore 0 7 (.t 20) (.t 57))⟩]) (.seq (.seq (.ops 83 [⟨0, (.some 58), .none, (.o (.s (.fa 1 (.t 20))))⟩, ⟨1,
    (.some 59), .none, (.o (.s (.iaa 2 1 (.t 58) (.k (.int .i64 (0))))))⟩, ⟨2, (.some 60), .none, (.lload 0 .none (.t 59))⟩, ⟨3, (.some 61), .none,
    (.o (.s (.mv (.t 16))))⟩, ⟨4, (.some 62), .none, (.o (.s (.bin .neq (.t 60) (.t 61))))⟩, ⟨5, (.some 63), .none, (.o (.s (.mv (.t 62))))⟩, ⟨6, (.some 64), (.some (63,
    .false)), (.o (.s (.fa 3 (.t 20))))⟩, ⟨7, (.some 65), (.some (63, .false)), (.o (.s (.iaa 2 1 (.t 64) (.k (.int .i64 (0))))))⟩, ⟨8, (.some 66), (.some (63, .false)),
    (.lload 0 .none (.t 65))⟩, ⟨9, (.some 67), (.some (63, .false)), (.o (.s (.mv (.t 17))))⟩, ⟨10, (.some 68), (.some (63, .false)), (.o (.s (.bin .neq (.t 66)
    (.t 67))))⟩, ⟨11, (.some 69), .none, (.o (.s (.pick (.t 63) (.k (.bool .true)) (.t 68))))⟩, ⟨12, (.some 70), .none, (.o (.s (.mv (.t 69))))⟩, ⟨13, (.some 71),
    (.some (70, .false)), (.o (.s (.fa 5 (.t 20))))⟩, ⟨14, (.some 72), (.some (70, .false)), (.o (.s (.iaa 2 1 (.t 71) (.k (.int .i64 (0))))))⟩, ⟨15, (.some 73),
    (.some (70, .false)), (.lload 0 .none (.t 72))⟩, ⟨16, (.some 74), (.some (70, .false)), (.o (.s (.mv (.t 18))))⟩, ⟨17, (.some 75), (.some (70, .false)),
    (.o (.s (.bin .neq (.t 73) (.t 74))))⟩, ⟨18, (.some 76), .none, (.o (.s (.pick (.t 70) (.k (.bool .true)) (.t 75))))⟩, ⟨19, (.some 77), .none,
    (.o (.s (.mv (.t 76))))⟩, ⟨20, (.some 78), (.some (77, .false)), (.o (.s (.fa 1 (.t 20))))⟩, ⟨21, (.some 79), (.some (77, .false)), (.o (.s (.iaa 2 1 (.t 78)
    (.k (.int .i64 (1))))))⟩, ⟨22, (.some 80), (.some (77, .false)), (.lload 0 .none (.t 79))⟩, ⟨23, (.some 81), (.some (77, .false)), (.o (.s (.mv (.t 16))))⟩, ⟨24,
    (.some 82), (.some (77, .false)), (.o (.s (.bin .lss (.t 80) (.t 81))))⟩, ⟨25, (.some 83), .none, (.o (.s (.pick (.t 77) (.k (.bool .true)) (.t 82))))⟩, ⟨26,
    (.some 84), .none, (.o (.s (.mv (.t 83))))⟩, ⟨27, (.some 85), (.some (84, .false)), (.o (.s (.fa 3 (.t 20))))⟩, ⟨28, (.some 86), (.some (84, .false)),
    (.o (.s (.iaa 2 1 (.t 85) (.k (.int .i64 (1))))))⟩, ⟨29, (.some 87), (.some (84, .false)), (.lload 0 .none (.t 86))⟩, ⟨30, (.some 88), (.some (84, .false)),
    (.o (.s (.mv (.t 17))))⟩, ⟨31, (.some 89), (.some (84, .false)), (.o (.s (.bin .lss (.t 87) (.t 88))))⟩, ⟨32, (.some 90), .none, (.o (.s (.pick (.t 84)
    (.k (.bool .true)) (.t 89))))⟩, ⟨33, (.some 91), .none, (.o (.s (.mv (.t 90))))⟩, ⟨34, (.some 92), (.some (91, .false)), (.o (.s (.fa 5 (.t 20))))⟩, ⟨35, (.some 93),
    (.some (91, .false)), (.o (.s (.iaa 2 1 (.t 92) (.k (.int .i64 (1))))))⟩, ⟨36, (.some 94), (.some (91, .false)), (.lload 0 .none (.t 93))⟩, ⟨37, (.some 95),
    (.some (91, .false)), (.o (.s (.mv (.t 18))))⟩, ⟨38, (.some 96), (.some (91, .false)), (.o (.s (.bin .lss (.t 94) (.t 95))))⟩, ⟨39, (.some 97), .none,
    (.o (.s (.pick (.t 91) (.k (.bool .true)) (.t 96))))⟩, ⟨40, (.some 98), .none, (.o (.s (.mv (.t 97))))⟩, ⟨41, (.some 99), (.some (98, .false)),
    (.o (.s (.fa 1 (.t 20))))⟩, ⟨42, (.some 100), (.some (98, .false)), (.o (.s (.iaa 2 1 (.t 99) (.k (.int .i64 (1))))))⟩, ⟨43, (.some 101), (.some (98, .false)),
    (.lload 0 .none (.t 100))⟩, ⟨44, (.some 102), (.some (98, .false)), (.o (.s (.fa 3 (.t 20))))⟩, ⟨45, (.some 103), (.some (98, .false)), (.o (.s (.iaa 2 1 (.t 102)
    (.k (.int .i64 (1))))))⟩, ⟨46, (.some 104), (.some (98, .false)), (.lload 0 .none (.t 103))⟩, ⟨47, (.some 105), (.some (98, .false)), (.o (.s (.bin .add (.t 101)
    (.t 104))))⟩, ⟨48, (.some 106), (.some (98, .false)), (.o (.s (.fa 5 (.t 20))))⟩, ⟨49, (.some 107), (.some (98, .false)), (.o (.s (.iaa 2 1 (.t 106)
    (.k (.int .i64 (1))))))⟩, ⟨50, (.some 108), (.some (98, .false)), (.lload 0 .none (.t 107))⟩, ⟨51, (.some 109), (.some (98, .false)), (.o (.s (.bin .add (.t 105)
    (.t 108))))⟩, ⟨52, (.some 110), (.some (98, .false)), (.o (.s (.mv (.t 16))))⟩, ⟨53, (.some 111), (.some (98, .false)), (.o (.s (.mv (.t 17))))⟩, ⟨54, (.some 112),
    (.some (98, .false)), (.o (.s (.bin .add (.t 110) (.t 111))))⟩, ⟨55, (.some 113), (.some (98, .false)), (.o (.s (.mv (.t 18))))⟩, ⟨56, (.some 114), (.some (98,
    .false)), (.o (.s (.bin .add (.t 112) (.t 113))))⟩, ⟨57, (.some 115), (.some (98, .false)), (.o (.s (.bin .eql (.t 109) (.t 114))))⟩, ⟨58, (.some 116), .none,
    (.o (.s (.pick (.t 98) (.k (.bool .true)) (.t 115))))⟩, ⟨59, (.some 117), .none, (.o (.s (.mv (.t 116))))⟩, ⟨60, (.some 118), (.some (117, .false)),
    (.o (.s (.fa 1 (.t 20))))⟩, ⟨61, (.some 119), (.some (117, .false)), (.o (.s (.iaa 2 1 (.t 118) (.k (.int .i64 (1))))))⟩, ⟨62, (.some 120), (.some (117, .false)),
    (.lload 0 .none (.t 119))⟩, ⟨63, (.some 121), (.some (117, .false)), (.o (.s (.mv (.t 11))))⟩, ⟨64, (.some 122), (.some (117, .false)), (.o (.s (.len (.t 121))))⟩,
    ⟨65, (.some 123), (.some (117, .false)), (.o (.s (.bin .gtr (.t 120) (.t 122))))⟩, ⟨66, (.some 124), .none, (.o (.s (.pick (.t 117) (.k (.bool .true)) (.t 123))))⟩,
    ⟨67, (.some 125), .none, (.o (.s (.mv (.t 124))))⟩, ⟨68, (.some 126), (.some (125, .false)), (.o (.s (.fa 3 (.t 20))))⟩, ⟨69, (.some 127), (.some (125, .false)),
    (.o (.s (.iaa 2 1 (.t 126) (.k (.int .i64 (1))))))⟩, ⟨70, (.some 128), (.some (125, .false)), (.lload 0 .none (.t 127))⟩, ⟨71, (.some 129), (.some (125, .false)),
    (.o (.s (.mv (.t 12))))⟩, ⟨72, (.some 130), (.some (125, .false)), (.o (.s (.len (.t 129))))⟩, ⟨73, (.some 131), (.some (125, .false)), (.o (.s (.bin .gtr (.t 128)
    (.t 130))))⟩, ⟨74, (.some 132), .none, (.o (.s (.pick (.t 125) (.k (.bool .true)) (.t 131))))⟩, ⟨75, (.some 133), .none, (.o (.s (.mv (.t 132))))⟩, ⟨76, (.some 134),
    (.some (133, .false)), (.o (.s (.fa 5 (.t 20))))⟩, ⟨77, (.some 135), (.some (133, .false)), (.o (.s (.iaa 2 1 (.t 134) (.k (.int .i64 (1))))))⟩, ⟨78, (.some 136),
    (.some (133, .false)), (.lload 0 .none (.t 135))⟩, ⟨79, (.some 137), (.some (133, .false)), (.o (.s (.mv (.t 13))))⟩, ⟨80, (.some 138), (.some (133, .false)),
    (.o (.s (.len (.t 137))))⟩, ⟨81, (.some 139), (.some (133, .false)), (.o (.s (.bin .gtr (.t 136) (.t 138))))⟩, ⟨82, (.some 140), .none, (.o (.s (.pick (.t 133)
    (.k (.bool .true)) (.t 139))))⟩]) (.cond (.t 140) (.seq (.ops 1 [⟨0, (.some 10), .none, (.o (.s (.mv (.k (.bool .false)))))⟩]) .ret) .skip))
    (.seq (.seq (.dops 89 [(⟨0, (.some 141), .none, (.o (.s (.fa 0 (.t 20))))⟩, (.mk 0 [])), (⟨1, (.some 142), .none, (.lload 0 .none (.t 141))⟩, (.mk 1 [])), (⟨2,
    (.some 143), .none, (.o (.s (.bin .eql (.t 142) (.k (.int .i64 (1))))))⟩, (.mk 0 [])), (⟨3, (.some 144), .none, (.o (.s (.mv (.t 143))))⟩, (.mk 0 [])), (⟨4,
    (.some 145), (.some (144, .true)), (.o (.s (.mv (.t 11))))⟩, (.mk 0 [])), (⟨5, (.some 146), (.some (144, .true)), (.o (.s (.fa 1 (.t 20))))⟩, (.mk 0 [])), (⟨6,
    (.some 147), (.some (144, .true)), (.o (.s (.iaa 2 1 (.t 146) (.k (.int .i64 (0))))))⟩, (.mk 0 [])), (⟨8, (.some 149), (.some (144, .true)),
    (.o (.s (.fa 1 (.t 20))))⟩, (.mk 0 [])), (⟨9, (.some 150), (.some (144, .true)), (.o (.s (.iaa 2 1 (.t 149) (.k (.int .i64 (1))))))⟩, (.mk 0 [])), (⟨12, (.some 153),
    (.some (144, .true)), (.o (.s (.mv (.t 12))))⟩, (.mk 0 [])), (⟨13, (.some 154), (.some (144, .true)), (.o (.s (.fa 3 (.t 20))))⟩, (.mk 0 [])), (⟨14, (.some 155),
    (.some (144, .true)), (.o (.s (.iaa 2 1 (.t 154) (.k (.int .i64 (0))))))⟩, (.mk 0 [])), (⟨16, (.some 157), (.some (144, .true)), (.o (.s (.fa 3 (.t 20))))⟩,
    (.mk 0 [])), (⟨17, (.some 158), (.some (144, .true)), (.o (.s (.iaa 2 1 (.t 157) (.k (.int .i64 (1))))))⟩, (.mk 0 [])), (⟨7, (.some 148), (.some (144, .true)),
    (.lload 0 .none (.t 147))⟩, (.mk 1 [])), (⟨10, (.some 151), (.some (144, .true)), (.lload 0 .none (.t 150))⟩, (.mk 1 [])), (⟨11, (.some 152), (.some (144, .true)),
    (.o (.s (.sub 1 (.t 145) (.some (.t 148)) (.some (.t 151)))))⟩, (.mk 1 [])), (⟨15, (.some 156), (.some (144, .true)), (.lload 0 .none (.t 155))⟩, (.mk 1 [])), (⟨18,
    (.some 159), (.some (144, .true)), (.lload 0 .none (.t 158))⟩, (.mk 1 [])), (⟨19, (.some 160), (.some (144, .true)), (.o (.s (.sub 1 (.t 153) (.some (.t 156))
    (.some (.t 159)))))⟩, (.mk 1 [])), (⟨20, (.some 161), (.some (144, .true)), (.o (.call 11 [(.t 152), (.t 160)]))⟩, (.mk 0 [])), (⟨21, (.some 162), (.some (144,
    .true)), (.o (.s (.un .not (.t 161))))⟩, (.mk 0 [])), (⟨22, (.some 163), (.some (144, .true)), (.o (.s (.mv (.t 162))))⟩, (.mk 0 [])), (⟨23, (.some 164), (.some (163,
    .false)), (.o (.s (.mv (.t 11))))⟩, (.mk 0 [])), (⟨24, (.some 165), (.some (163, .false)), (.o (.s (.fa 1 (.t 20))))⟩, (.mk 0 [])), (⟨25, (.some 166), (.some (163,
    .false)), (.o (.s (.iaa 2 1 (.t 165) (.k (.int .i64 (0))))))⟩, (.mk 0 [])), (⟨27, (.some 168), (.some (163, .false)), (.o (.s (.fa 1 (.t 20))))⟩, (.mk 0 [])), (⟨28,
    (.some 169), (.some (163, .false)), (.o (.s (.iaa 2 1 (.t 168) (.k (.int .i64 (1))))))⟩, (.mk 0 [])), (⟨31, (.some 172), (.some (163, .false)),
    (.o (.s (.mv (.t 13))))⟩, (.mk 0 [])), (⟨32, (.some 173), (.some (163, .false)), (.o (.s (.fa 5 (.t 20))))⟩, (.mk 0 [])), (⟨33, (.some 174), (.some (163, .false)),
    (.o (.s (.iaa 2 1 (.t 173) (.k (.int .i64 (0))))))⟩, (.mk 0 [])), (⟨35, (.some 176), (.some (163, .false)), (.o (.s (.fa 5 (.t 20))))⟩, (.mk 0 [])), (⟨36, (.some 177),
    (.some (163, .false)), (.o (.s (.iaa 2 1 (.t 176) (.k (.int .i64 (1))))))⟩, (.mk 0 [])), (⟨26, (.some 167), (.some (163, .false)), (.lload 0 .none (.t 166))⟩,
    (.mk 1 [])), (⟨29, (.some 170), (.some (163, .false)), (.lload 0 .none (.t 169))⟩, (.mk 1 [])), (⟨30, (.some 171), (.some (163, .false)), (.o (.s (.sub 1 (.t 164)
    (.some (.t 167)) (.some (.t 170)))))⟩, (.mk 1 [])), (⟨34, (.some 175), (.some (163, .false)), (.lload 0 .none (.t 174))⟩, (.mk 1 [])), (⟨37, (.some 178), (.some (163,
    .false)), (.lload 0 .none (.t 177))⟩, (.mk 1 [])), (⟨38, (.some 179), (.some (163, .false)), (.o (.s (.sub 1 (.t 172) (.some (.t 175)) (.some (.t 178)))))⟩,
    (.mk 1 [])), (⟨39, (.some 180), (.some (163, .false)), (.o (.call 11 [(.t 171), (.t 179)]))⟩, (.mk 0 [])), (⟨40, (.some 181), (.some (163, .false)),
    (.o (.s (.un .not (.t 180))))⟩, (.mk 0 [])), (⟨41, (.some 182), (.some (144, .true)), (.o (.s (.pick (.t 163) (.k (.bool .true)) (.t 181))))⟩, (.mk 0 [])), (⟨42,
    (.some 183), .none, (.o (.s (.pick (.t 144) (.t 182) (.k (.bool .false)))))⟩, (.mk 0 [])), (⟨43, (.some 184), .none, (.o (.s (.mv (.t 183))))⟩, (.mk 0 [])), (⟨44,
    (.some 185), (.some (184, .false)), (.o (.s (.fa 0 (.t 20))))⟩, (.mk 0 [])), (⟨45, (.some 186), (.some (184, .false)), (.lload 0 .none (.t 185))⟩, (.mk 1 [])), (⟨46,
    (.some 187), (.some (184, .false)), (.o (.s (.bin .lss (.t 186) (.k (.int .i64 (1))))))⟩, (.mk 0 [])), (⟨47, (.some 188), .none, (.o (.s (.pick (.t 184)
    (.k (.bool .true)) (.t 187))))⟩, (.mk 0 [])), (⟨48, (.some 189), .none, (.o (.s (.mv (.t 188))))⟩, (.mk 0 [])), (⟨49, (.some 190), (.some (189, .false)),
    (.o (.s (.fa 0 (.t 20))))⟩, (.mk 0 [])), (⟨50, (.some 191), (.some (189, .false)), (.lload 0 .none (.t 190))⟩, (.mk 1 [])), (⟨51, (.some 192), (.some (189, .false)),
    (.o (.s (.bin .gtr (.t 191) (.k (.int .i64 (5))))))⟩, (.mk 0 [])), (⟨52, (.some 193), .none, (.o (.s (.pick (.t 189) (.k (.bool .true)) (.t 192))))⟩, (.mk 0 [])),
    (⟨53, (.some 194), .none, (.o (.s (.mv (.t 193))))⟩, (.mk 0 [])), (⟨54, (.some 195), (.some (194, .false)), (.o (.s (.mv (.t 19))))⟩, (.mk 0 [])), (⟨55, (.some 196),
    (.some (194, .false)), (.o (.s (.bin .gtr (.t 195) (.k (.int .i64 (0))))))⟩, (.mk 0 [])), (⟨56, (.some 197), (.some (194, .false)), (.o (.s (.mv (.t 196))))⟩,
    (.mk 0 [])), (⟨57, (.some 198), (.some (197, .true)), (.o (.s (.mv (.t 14))))⟩, (.mk 0 [])), (⟨58, (.some 199), (.some (197, .true)), (.o (.s (.mv (.t 19))))⟩,
    (.mk 0 [])), (⟨59, (.some 200), (.some (197, .true)), (.o (.s (.bin .sub (.t 199) (.k (.int .i64 (1))))))⟩, (.mk 0 [])), (⟨60, (.some 201), (.some (197, .true)),
    (.o (.s (.ia 7 (.t 198) (.t 200))))⟩, (.mk 1 [])), (⟨61, (.some 202), (.some (197, .true)), (.o (.s (.fa 0 (.t 201))))⟩, (.mk 0 [])), (⟨62, (.some 203), (.some (197,
    .true)), (.o (.s (.load .none (.t 202))))⟩, (.mk 1 [])), (⟨63, (.some 204), (.some (197, .true)), (.o (.s (.bin .eql (.t 203) (.k (.int .i64 (1))))))⟩, (.mk 0 [])),
    (⟨64, (.some 205), (.some (194, .false)), (.o (.s (.pick (.t 197) (.t 204) (.k (.bool .false)))))⟩, (.mk 0 [])), (⟨65, (.some 206), (.some (194, .false)),
    (.o (.s (.mv (.t 205))))⟩, (.mk 0 [])), (⟨66, (.some 207), (.some (206, .true)), (.o (.s (.fa 0 (.t 20))))⟩, (.mk 0 [])), (⟨67, (.some 208), (.some (206, .true)),
    (.lload 0 .none (.t 207))⟩, (.mk 1 [])), (⟨68, (.some 209), (.some (206, .true)), (.o (.s (.bin .eql (.t 208) (.k (.int .i64 (1))))))⟩, (.mk 0 [])), (⟨69, (.some 210),
    (.some (194, .false)), (.o (.s (.pick (.t 206) (.t 209) (.k (.bool .false)))))⟩, (.mk 0 [])), (⟨70, (.some 211), .none, (.o (.s (.pick (.t 194) (.k (.bool .true))
    (.t 210))))⟩, (.mk 0 [])), (⟨71, (.some 212), .none, (.o (.s (.mv (.t 211))))⟩, (.mk 0 [])), (⟨72, (.some 213), (.some (212, .false)), (.o (.s (.mv (.t 19))))⟩,
    (.mk 0 [])), (⟨73, (.some 214), (.some (212, .false)), (.o (.s (.bin .gtr (.t 213) (.k (.int .i64 (0))))))⟩, (.mk 0 [])), (⟨74, (.some 215), (.some (212, .false)),
    (.o (.s (.mv (.t 214))))⟩, (.mk 0 [])), (⟨75, (.some 216), (.some (215, .true)), (.o (.s (.mv (.t 14))))⟩, (.mk 0 [])), (⟨76, (.some 217), (.some (215, .true)),
    (.o (.s (.mv (.t 19))))⟩, (.mk 0 [])), (⟨77, (.some 218), (.some (215, .true)), (.o (.s (.bin .sub (.t 217) (.k (.int .i64 (1))))))⟩, (.mk 0 [])), (⟨78, (.some 219),
    (.some (215, .true)), (.o (.s (.ia 7 (.t 216) (.t 218))))⟩, (.mk 1 [])), (⟨79, (.some 220), (.some (215, .true)), (.o (.s (.fa 0 (.t 219))))⟩, (.mk 0 [])), (⟨80,
    (.some 221), (.some (215, .true)), (.o (.s (.load .none (.t 220))))⟩, (.mk 1 [])), (⟨81, (.some 222), (.some (215, .true)), (.o (.s (.bin .neq (.t 221)
    (.k (.int .i64 (1))))))⟩, (.mk 0 [])), (⟨82, (.some 223), (.some (212, .false)), (.o (.s (.pick (.t 215) (.t 222) (.k (.bool .false)))))⟩, (.mk 0 [])), (⟨83,
    (.some 224), (.some (212, .false)), (.o (.s (.mv (.t 223))))⟩, (.mk 0 [])), (⟨84, (.some 225), (.some (224, .true)), (.o (.s (.fa 0 (.t 20))))⟩, (.mk 0 [])), (⟨85,
    (.some 226), (.some (224, .true)), (.lload 0 .none (.t 225))⟩, (.mk 1 [])), (⟨86, (.some 227), (.some (224, .true)), (.o (.s (.bin .neq (.t 226)
    (.k (.int .i64 (1))))))⟩, (.mk 0 [])), (⟨87, (.some 228), (.some (212, .false)), (.o (.s (.pick (.t 224) (.t 227) (.k (.bool .false)))))⟩, (.mk 0 [])), (⟨88,
    (.some 229), .none, (.o (.s (.pick (.t 212) (.k (.bool .true)) (.t 228))))⟩, (.mk 0 []))]) (.cond (.t 229) (.seq (.ops 1 [⟨0, (.some 10), .none,
    (.o (.s (.mv (.k (.bool .false)))))⟩]) .ret) .skip)) (.dops 12 [(⟨0, (.some 230), .none, (.o (.s (.fa 1 (.t 20))))⟩, (.mk 0 [])), (⟨1, (.some 231), .none,
    (.o (.s (.iaa 2 1 (.t 230) (.k (.int .i64 (1))))))⟩, (.mk 0 [])), (⟨3, (.some 233), .none, (.o (.s (.fa 3 (.t 20))))⟩, (.mk 0 [])), (⟨4, (.some 234), .none,
    (.o (.s (.iaa 2 1 (.t 233) (.k (.int .i64 (1))))))⟩, (.mk 0 [])), (⟨6, (.some 236), .none, (.o (.s (.fa 5 (.t 20))))⟩, (.mk 0 [])), (⟨7, (.some 237), .none,
    (.o (.s (.iaa 2 1 (.t 236) (.k (.int .i64 (1))))))⟩, (.mk 0 [])), (⟨2, (.some 232), .none, (.lload 0 .none (.t 231))⟩, (.mk 1 [])), (⟨9, (.some 16), .none,
    (.o (.s (.mv (.t 232))))⟩, (.mk 0 [])), (⟨5, (.some 235), .none, (.lload 0 .none (.t 234))⟩, (.mk 1 [])), (⟨10, (.some 17), .none, (.o (.s (.mv (.t 235))))⟩,
    (.mk 0 [])), (⟨8, (.some 238), .none, (.lload 0 .none (.t 237))⟩, (.mk 1 [])), (⟨11, (.some 18), .none, (.o (.s (.mv (.t 238))))⟩, (.mk 0 []))]))))) (.ops 3 [⟨0,
    (.some 52), .none, (.o (.s (.mv (.t 19))))⟩, ⟨1, (.some 53), .none, (.o (.s (.bin .add (.t 52) (.k (.int .i64 (1))))))⟩, ⟨2, (.some 19), .none,
    (.o (.s (.mv (.t 53))))⟩])))
theorem F3l0w : F3l0.wf = true := by kernel_rfl
def F3s : S2 :=
  (.seq (.ops 1 [⟨0, (.some 10), .none, (.o (.s (.mv (.k (.bool .false)))))⟩]) (.seq (.ops 9 [⟨0, (.some 21), .none, (.o (.s (.mv (.t 0))))⟩, ⟨1, (.some 22), .none,
    (.o (.call 7 [(.t 21)]))⟩, ⟨2, (.some 23), .none, (.o (.s (.mv (.t 1))))⟩, ⟨3, (.some 24), .none, (.o (.call 7 [(.t 23)]))⟩, ⟨4, (.some 25), .none,
    (.o (.s (.mv (.t 2))))⟩, ⟨5, (.some 26), .none, (.o (.call 7 [(.t 25)]))⟩, ⟨6, (.some 11), .none, (.o (.s (.mv (.t 22))))⟩, ⟨7, (.some 12), .none,
    (.o (.s (.mv (.t 24))))⟩, ⟨8, (.some 13), .none, (.o (.s (.mv (.t 26))))⟩]) (.seq (.ops 17 [⟨0, (.some 28), .none, (.o (.s (.mv (.t 11))))⟩, ⟨1, (.some 29), .none,
    (.o (.s (.mv (.t 12))))⟩, ⟨2, (.some 30), .none, (.o (.s (.mv (.t 13))))⟩, ⟨3, (.some 31), .none, (.o (.s (.mv (.t 11))))⟩, ⟨4, (.some 32), .none,
    (.o (.s (.mv (.t 12))))⟩, ⟨5, (.some 33), .none, (.o (.s (.mv (.t 3))))⟩, ⟨6, (.some 34), .none, (.o (.call 9 [(.t 31), (.t 32), (.t 33)]))⟩, ⟨7, (.some 35), .none,
    (.o (.s (.mv (.t 11))))⟩, ⟨8, (.some 36), .none, (.o (.s (.mv (.t 13))))⟩, ⟨9, (.some 37), .none, (.o (.s (.mv (.t 4))))⟩, ⟨10, (.some 38), .none,
    (.o (.call 9 [(.t 35), (.t 36), (.t 37)]))⟩, ⟨11, (.some 39), .none, (.o (.call 8 [(.t 28), (.t 29), (.t 30), (.t 34), (.t 38)]))⟩, ⟨12, (.some 27), .none,
    (.o (.s (.mv (.t 39))))⟩, ⟨13, (.some 40), .none, (.o (.s (.ext (.t 27) 0)))⟩, ⟨14, (.some 41), .none, (.o (.s (.ext (.t 27) 1)))⟩, ⟨15, (.some 14), .none,
    (.o (.s (.mv (.t 40))))⟩, ⟨16, (.some 15), .none, (.o (.s (.mv (.t 41))))⟩]) (.seq (.seq (.ops 6 [⟨0, (.some 42), .none, (.o (.call 10 []))⟩, ⟨1, (.some 43), .none,
    (.o (.s (.un .not (.t 42))))⟩, ⟨2, (.some 44), .none, (.o (.s (.mv (.t 43))))⟩, ⟨3, (.some 45), (.some (44, .false)), (.o (.s (.mv (.t 15))))⟩, ⟨4, (.some 46),
    (.some (44, .false)), (.o (.s (.bin .neq (.t 45) (.k (.int .i64 (0))))))⟩, ⟨5, (.some 47), .none, (.o (.s (.pick (.t 44) (.k (.bool .true)) (.t 46))))⟩])
    (.cond (.t 47) (.seq (.ops 1 [⟨0, (.some 10), .none, (.o (.s (.mv (.k (.bool .false)))))⟩]) .ret) .skip)) (.seq (.ops 3 [⟨0, (.some 16), .none,
    (.o (.s (.mv (.k (.int .i64 (0))))))⟩, ⟨1, (.some 17), .none, (.o (.s (.mv (.k (.int .i64 (0))))))⟩, ⟨2, (.some 18), .none, (.o (.s (.mv (.k (.int .i64 (0))))))⟩])
    (.seq (.seq (.ops 1 [⟨0, (.some 19), .none, (.o (.s (.mv (.k (.int .i64 (0))))))⟩]) (.block 0 (.loop F3l0))) (.seq (.ops 17 [⟨0, (.some 239), .none,
    (.o (.s (.mv (.t 16))))⟩, ⟨1, (.some 240), .none, (.o (.s (.mv (.t 11))))⟩, ⟨2, (.some 241), .none, (.o (.s (.len (.t 240))))⟩, ⟨3, (.some 242), .none,
    (.o (.s (.bin .eql (.t 239) (.t 241))))⟩, ⟨4, (.some 243), .none, (.o (.s (.mv (.t 242))))⟩, ⟨5, (.some 244), (.some (243, .true)), (.o (.s (.mv (.t 17))))⟩, ⟨6,
    (.some 245), (.some (243, .true)), (.o (.s (.mv (.t 12))))⟩, ⟨7, (.some 246), (.some (243, .true)), (.o (.s (.len (.t 245))))⟩, ⟨8, (.some 247), (.some (243, .true)),
    (.o (.s (.bin .eql (.t 244) (.t 246))))⟩, ⟨9, (.some 248), .none, (.o (.s (.pick (.t 243) (.t 247) (.k (.bool .false)))))⟩, ⟨10, (.some 249), .none,
    (.o (.s (.mv (.t 248))))⟩, ⟨11, (.some 250), (.some (249, .true)), (.o (.s (.mv (.t 18))))⟩, ⟨12, (.some 251), (.some (249, .true)), (.o (.s (.mv (.t 13))))⟩, ⟨13,
    (.some 252), (.some (249, .true)), (.o (.s (.len (.t 251))))⟩, ⟨14, (.some 253), (.some (249, .true)), (.o (.s (.bin .eql (.t 250) (.t 252))))⟩, ⟨15, (.some 254),
    .none, (.o (.s (.pick (.t 249) (.t 253) (.k (.bool .false)))))⟩, ⟨16, (.some 10), .none, (.o (.s (.mv (.t 254))))⟩]) .ret)))))))
noncomputable def F3b : Go.Code := Go.Proofs.Try.f3.body.getD .skip
theorem F3c : comp C [] F3b = some F3s.er := by kernel_rfl
theorem F3w : F3s.wf = true := by kernel_rfl
theorem F3d : Go.Proofs.Try.f3.body = some F3b := by kernel_rfl
@[simp] def F3q : List RV2 := [(.o (.tmp 10))]
theorem F3r : compRVs C Go.Proofs.Try.f3.results.toList = some (F3q.map RV2.er) := by kernel_rfl
theorem F3e : Enters Go.Proofs.Try.prog 3 := enters_of Go.Proofs.Try.func3 (by kernel_rfl) (by kernel_rfl)

/-- scarf/scarflaw17.ChunkTurns -- 0: grows t22 t147 t152 t157 -/
def F4l0 : S2 :=
  (.seq (.seq (.ops 4 [⟨0, (.some 162), .none, (.o (.s (.mv (.t 26))))⟩, ⟨1, (.some 163), .none, (.o (.s (.mv (.t 24))))⟩, ⟨2, (.some 164), .none,
    (.o (.s (.len (.t 163))))⟩, ⟨3, (.some 165), .none, (.o (.s (.bin .lss (.t 162) (.t 164))))⟩]) (.cond (.t 165) .skip (.exit 4))) (.seq (.block 5 (.seq (.ops 14 [⟨0,
    (.some 168), .none, (.o (.s (.mv (.t 24))))⟩, ⟨1, (.some 169), .none, (.o (.s (.mv (.t 26))))⟩, ⟨2, (.some 170), .none, (.o (.s (.ia 7 (.t 168) (.t 169))))⟩, ⟨3,
    (.some 171), .none, (.o (.s (.fa 0 (.t 170))))⟩, ⟨4, (.some 172), .none, (.o (.s (.load .none (.t 171))))⟩, ⟨5, (.some 173), .none, (.o (.s (.bin .eql (.t 172)
    (.k (.int .i64 (2))))))⟩, ⟨6, (.some 174), .none, (.o (.s (.mv (.t 173))))⟩, ⟨7, (.some 175), (.some (174, .false)), (.o (.s (.mv (.t 24))))⟩, ⟨8, (.some 176),
    (.some (174, .false)), (.o (.s (.mv (.t 26))))⟩, ⟨9, (.some 177), (.some (174, .false)), (.o (.s (.ia 7 (.t 175) (.t 176))))⟩, ⟨10, (.some 178), (.some (174, .false)),
    (.o (.s (.fa 0 (.t 177))))⟩, ⟨11, (.some 179), (.some (174, .false)), (.o (.s (.load .none (.t 178))))⟩, ⟨12, (.some 180), (.some (174, .false)),
    (.o (.s (.bin .eql (.t 179) (.k (.int .i64 (5))))))⟩, ⟨13, (.some 181), .none, (.o (.s (.pick (.t 174) (.k (.bool .true)) (.t 180))))⟩]) (.cond (.t 181)
    (.seq (.ops 1 [⟨0, (.some 10), .none, (.o (.s (.mv (.k (.bool .false)))))⟩]) .ret) .skip))) (.ops 3 [⟨0, (.some 166), .none, (.o (.s (.mv (.t 26))))⟩, ⟨1, (.some 167),
    .none, (.o (.s (.bin .add (.t 166) (.k (.int .i64 (1))))))⟩, ⟨2, (.some 26), .none, (.o (.s (.mv (.t 167))))⟩])))
theorem F4l0w : F4l0.wf = true := by kernel_rfl
def F4l1 : S2 :=
  (.seq (.seq (.ops 4 [⟨0, (.some 141), .none, (.o (.s (.mv (.t 23))))⟩, ⟨1, (.some 142), .none, (.o (.s (.mv (.t 11))))⟩, ⟨2, (.some 143), .none,
    (.o (.s (.len (.t 142))))⟩, ⟨3, (.some 144), .none, (.o (.s (.bin .lss (.t 141) (.t 143))))⟩]) (.cond (.t 144) .skip (.exit 2))) (.seq (.block 3 (.ops 7 [⟨0,
    (.some 147), .none, (.o (.s (.mv (.t 22))))⟩, ⟨1, (.some 148), .none, (.o (.s (.mv (.t 23))))⟩, ⟨2, (.some 149), .none, (.o (.s (.mv (.t 23))))⟩, ⟨3, (.some 150),
    .none, (.o (.s (.build [(.int .i64 (0)), (.int .i64 (0))] [(0, (1, (.t 148))), (1, (1, (.t 149)))])))⟩, ⟨4, (.some 151), .none, (.lbsl 1 31 2 1 [(.int .i64 (0)),
    (.int .i64 (0))] [(0, (.t 150))] .false)⟩, ⟨5, (.some 152), .none, (.lapp 0 31 2 16 (.t 147) (.t 151))⟩, ⟨6, (.some 22), .none, (.o (.s (.mv (.t 152))))⟩]))
    (.ops 3 [⟨0, (.some 145), .none, (.o (.s (.mv (.t 23))))⟩, ⟨1, (.some 146), .none, (.o (.s (.bin .add (.t 145) (.k (.int .i64 (1))))))⟩, ⟨2, (.some 23), .none,
    (.o (.s (.mv (.t 146))))⟩])))
theorem F4l1w : F4l1.wf = true := by kernel_rfl
def F4l2 : S2 :=
  (.seq (.seq (.ops 4 [⟨0, (.some 76), .none, (.o (.s (.mv (.t 20))))⟩, ⟨1, (.some 77), .none, (.o (.s (.mv (.t 16))))⟩, ⟨2, (.some 78), .none, (.o (.s (.len (.t 77))))⟩,
    ⟨3, (.some 79), .none, (.o (.s (.bin .lss (.t 76) (.t 78))))⟩]) (.cond (.t 79) .skip (.exit 0))) (.seq (.block 1 (.seq (.ops 6 [⟨0, (.some 82), .none,
    (.o (.s (.mv (.t 16))))⟩, ⟨1, (.some 83), .none, (.o (.s (.mv (.t 20))))⟩, ⟨2, (.some 84), .none, (.o (.s (.ia 7 (.t 82) (.t 83))))⟩, ⟨3, (.some 85), .none,
    (.o (.s (.fa 0 (.t 84))))⟩, ⟨4, (.some 86), .none, (.o (.s (.load .none (.t 85))))⟩, ⟨5, (.some 21), .none, (.o (.s (.mv (.t 86))))⟩]) (.seq (.seq (.ops 6 [⟨0,
    (.some 87), .none, (.o (.s (.mv (.t 21))))⟩, ⟨1, (.some 88), .none, (.o (.s (.bin .eql (.t 87) (.k (.int .i64 (2))))))⟩, ⟨2, (.some 89), .none,
    (.o (.s (.mv (.t 88))))⟩, ⟨3, (.some 90), (.some (89, .false)), (.o (.s (.mv (.t 21))))⟩, ⟨4, (.some 91), (.some (89, .false)), (.o (.s (.bin .eql (.t 90)
    (.k (.int .i64 (3))))))⟩, ⟨5, (.some 92), .none, (.o (.s (.pick (.t 89) (.k (.bool .true)) (.t 91))))⟩]) (.cond (.t 92) (.ops 3 [⟨0, (.some 93), .none,
    (.o (.s (.mv (.t 21))))⟩, ⟨1, (.some 94), .none, (.o (.s (.bin .sub (.k (.int .i64 (5))) (.t 93))))⟩, ⟨2, (.some 21), .none, (.o (.s (.mv (.t 94))))⟩]) .skip))
    (.seq (.dops 46 [(⟨0, (.some 95), .none, (.o (.s (.mv (.t 18))))⟩, (.mk 0 [])), (⟨1, (.some 96), .none, (.o (.s (.mv (.t 20))))⟩, (.mk 0 [])), (⟨5, (.some 100), .none,
    (.o (.s (.mv (.t 21))))⟩, (.mk 0 [])), (⟨2, (.some 97), .none, (.o (.s (.ia 7 (.t 95) (.t 96))))⟩, (.mk 1 [])), (⟨3, (.some 98), .none, (.o (.s (.fa 0 (.t 97))))⟩,
    (.mk 0 [])), (⟨4, (.some 99), .none, (.o (.s (.load .none (.t 98))))⟩, (.mk 1 [])), (⟨6, (.some 101), .none, (.o (.s (.bin .neq (.t 99) (.t 100))))⟩, (.mk 0 [])), (⟨7,
    (.some 102), .none, (.o (.s (.mv (.t 101))))⟩, (.mk 0 [])), (⟨8, (.some 103), (.some (102, .false)), (.o (.s (.mv (.t 18))))⟩, (.mk 0 [])), (⟨9, (.some 104),
    (.some (102, .false)), (.o (.s (.mv (.t 20))))⟩, (.mk 0 [])), (⟨13, (.some 108), (.some (102, .false)), (.o (.s (.mv (.t 16))))⟩, (.mk 0 [])), (⟨14, (.some 109),
    (.some (102, .false)), (.o (.s (.mv (.t 20))))⟩, (.mk 0 [])), (⟨10, (.some 105), (.some (102, .false)), (.o (.s (.ia 7 (.t 103) (.t 104))))⟩, (.mk 1 [])), (⟨11,
    (.some 106), (.some (102, .false)), (.o (.s (.fa 1 (.t 105))))⟩, (.mk 0 [])), (⟨12, (.some 107), (.some (102, .false)), (.o (.s (.load (.some 2) (.t 106))))⟩,
    (.mk 1 [])), (⟨15, (.some 110), (.some (102, .false)), (.o (.s (.ia 7 (.t 108) (.t 109))))⟩, (.mk 1 [])), (⟨16, (.some 111), (.some (102, .false)),
    (.o (.s (.fa 1 (.t 110))))⟩, (.mk 0 [])), (⟨17, (.some 112), (.some (102, .false)), (.o (.s (.load (.some 2) (.t 111))))⟩, (.mk 1 [])), (⟨18, (.some 113), (.some (102,
    .false)), (.o (.s (.eqs (.agg [.int, .int]) .true (.t 107) (.t 112))))⟩, (.mk 0 [])), (⟨19, (.some 114), .none, (.o (.s (.pick (.t 102) (.k (.bool .true))
    (.t 113))))⟩, (.mk 0 [])), (⟨20, (.some 115), .none, (.o (.s (.mv (.t 114))))⟩, (.mk 0 [])), (⟨21, (.some 116), (.some (115, .false)), (.o (.s (.mv (.t 18))))⟩,
    (.mk 0 [])), (⟨22, (.some 117), (.some (115, .false)), (.o (.s (.mv (.t 20))))⟩, (.mk 0 [])), (⟨26, (.some 121), (.some (115, .false)), (.o (.s (.mv (.t 16))))⟩,
    (.mk 0 [])), (⟨27, (.some 122), (.some (115, .false)), (.o (.s (.mv (.t 20))))⟩, (.mk 0 [])), (⟨23, (.some 118), (.some (115, .false)), (.o (.s (.ia 7 (.t 116)
    (.t 117))))⟩, (.mk 1 [])), (⟨24, (.some 119), (.some (115, .false)), (.o (.s (.fa 3 (.t 118))))⟩, (.mk 0 [])), (⟨25, (.some 120), (.some (115, .false)),
    (.o (.s (.load (.some 2) (.t 119))))⟩, (.mk 1 [])), (⟨28, (.some 123), (.some (115, .false)), (.o (.s (.ia 7 (.t 121) (.t 122))))⟩, (.mk 1 [])), (⟨29, (.some 124),
    (.some (115, .false)), (.o (.s (.fa 5 (.t 123))))⟩, (.mk 0 [])), (⟨30, (.some 125), (.some (115, .false)), (.o (.s (.load (.some 2) (.t 124))))⟩, (.mk 1 [])), (⟨31,
    (.some 126), (.some (115, .false)), (.o (.s (.eqs (.agg [.int, .int]) .true (.t 120) (.t 125))))⟩, (.mk 0 [])), (⟨32, (.some 127), .none, (.o (.s (.pick (.t 115)
    (.k (.bool .true)) (.t 126))))⟩, (.mk 0 [])), (⟨33, (.some 128), .none, (.o (.s (.mv (.t 127))))⟩, (.mk 0 [])), (⟨34, (.some 129), (.some (128, .false)),
    (.o (.s (.mv (.t 18))))⟩, (.mk 0 [])), (⟨35, (.some 130), (.some (128, .false)), (.o (.s (.mv (.t 20))))⟩, (.mk 0 [])), (⟨39, (.some 134), (.some (128, .false)),
    (.o (.s (.mv (.t 16))))⟩, (.mk 0 [])), (⟨40, (.some 135), (.some (128, .false)), (.o (.s (.mv (.t 20))))⟩, (.mk 0 [])), (⟨36, (.some 131), (.some (128, .false)),
    (.o (.s (.ia 7 (.t 129) (.t 130))))⟩, (.mk 1 [])), (⟨37, (.some 132), (.some (128, .false)), (.o (.s (.fa 5 (.t 131))))⟩, (.mk 0 [])), (⟨38, (.some 133), (.some (128,
    .false)), (.o (.s (.load (.some 2) (.t 132))))⟩, (.mk 1 [])), (⟨41, (.some 136), (.some (128, .false)), (.o (.s (.ia 7 (.t 134) (.t 135))))⟩, (.mk 1 [])), (⟨42,
    (.some 137), (.some (128, .false)), (.o (.s (.fa 3 (.t 136))))⟩, (.mk 0 [])), (⟨43, (.some 138), (.some (128, .false)), (.o (.s (.load (.some 2) (.t 137))))⟩,
    (.mk 1 [])), (⟨44, (.some 139), (.some (128, .false)), (.o (.s (.eqs (.agg [.int, .int]) .true (.t 133) (.t 138))))⟩, (.mk 0 [])), (⟨45, (.some 140), .none,
    (.o (.s (.pick (.t 128) (.k (.bool .true)) (.t 139))))⟩, (.mk 0 []))]) (.cond (.t 140) (.seq (.ops 1 [⟨0, (.some 10), .none, (.o (.s (.mv (.k (.bool .false)))))⟩])
    .ret) .skip))))) (.ops 3 [⟨0, (.some 80), .none, (.o (.s (.mv (.t 20))))⟩, ⟨1, (.some 81), .none, (.o (.s (.bin .add (.t 80) (.k (.int .i64 (1))))))⟩, ⟨2, (.some 20),
    .none, (.o (.s (.mv (.t 81))))⟩])))
theorem F4l2w : F4l2.wf = true := by kernel_rfl
def F4s : S2 :=
  (.seq (.ops 1 [⟨0, (.some 10), .none, (.o (.s (.mv (.k (.bool .false)))))⟩]) (.seq (.ops 9 [⟨0, (.some 27), .none, (.o (.s (.mv (.t 0))))⟩, ⟨1, (.some 28), .none,
    (.o (.call 7 [(.t 27)]))⟩, ⟨2, (.some 29), .none, (.o (.s (.mv (.t 1))))⟩, ⟨3, (.some 30), .none, (.o (.call 7 [(.t 29)]))⟩, ⟨4, (.some 31), .none,
    (.o (.s (.mv (.t 2))))⟩, ⟨5, (.some 32), .none, (.o (.call 7 [(.t 31)]))⟩, ⟨6, (.some 11), .none, (.o (.s (.mv (.t 28))))⟩, ⟨7, (.some 12), .none,
    (.o (.s (.mv (.t 30))))⟩, ⟨8, (.some 13), .none, (.o (.s (.mv (.t 32))))⟩]) (.seq (.ops 10 [⟨0, (.some 33), .none, (.o (.s (.mv (.t 11))))⟩, ⟨1, (.some 34), .none,
    (.o (.s (.mv (.t 12))))⟩, ⟨2, (.some 35), .none, (.o (.s (.mv (.t 3))))⟩, ⟨3, (.some 36), .none, (.o (.call 9 [(.t 33), (.t 34), (.t 35)]))⟩, ⟨4, (.some 37), .none,
    (.o (.s (.mv (.t 11))))⟩, ⟨5, (.some 38), .none, (.o (.s (.mv (.t 13))))⟩, ⟨6, (.some 39), .none, (.o (.s (.mv (.t 4))))⟩, ⟨7, (.some 40), .none,
    (.o (.call 9 [(.t 37), (.t 38), (.t 39)]))⟩, ⟨8, (.some 14), .none, (.o (.s (.mv (.t 36))))⟩, ⟨9, (.some 15), .none, (.o (.s (.mv (.t 40))))⟩]) (.seq (.ops 11 [⟨0,
    (.some 42), .none, (.o (.s (.mv (.t 11))))⟩, ⟨1, (.some 43), .none, (.o (.s (.mv (.t 12))))⟩, ⟨2, (.some 44), .none, (.o (.s (.mv (.t 13))))⟩, ⟨3, (.some 45), .none,
    (.o (.s (.mv (.t 14))))⟩, ⟨4, (.some 46), .none, (.o (.s (.mv (.t 15))))⟩, ⟨5, (.some 47), .none, (.o (.call 8 [(.t 42), (.t 43), (.t 44), (.t 45), (.t 46)]))⟩, ⟨6,
    (.some 41), .none, (.o (.s (.mv (.t 47))))⟩, ⟨7, (.some 48), .none, (.o (.s (.ext (.t 41) 0)))⟩, ⟨8, (.some 49), .none, (.o (.s (.ext (.t 41) 1)))⟩, ⟨9, (.some 16),
    .none, (.o (.s (.mv (.t 48))))⟩, ⟨10, (.some 17), .none, (.o (.s (.mv (.t 49))))⟩]) (.seq (.ops 11 [⟨0, (.some 51), .none, (.o (.s (.mv (.t 11))))⟩, ⟨1, (.some 52),
    .none, (.o (.s (.mv (.t 13))))⟩, ⟨2, (.some 53), .none, (.o (.s (.mv (.t 12))))⟩, ⟨3, (.some 54), .none, (.o (.s (.mv (.t 15))))⟩, ⟨4, (.some 55), .none,
    (.o (.s (.mv (.t 14))))⟩, ⟨5, (.some 56), .none, (.o (.call 8 [(.t 51), (.t 52), (.t 53), (.t 54), (.t 55)]))⟩, ⟨6, (.some 50), .none, (.o (.s (.mv (.t 56))))⟩, ⟨7,
    (.some 57), .none, (.o (.s (.ext (.t 50) 0)))⟩, ⟨8, (.some 58), .none, (.o (.s (.ext (.t 50) 1)))⟩, ⟨9, (.some 18), .none, (.o (.s (.mv (.t 57))))⟩, ⟨10, (.some 19),
    .none, (.o (.s (.mv (.t 58))))⟩]) (.seq (.seq (.ops 17 [⟨0, (.some 59), .none, (.o (.call 10 []))⟩, ⟨1, (.some 60), .none, (.o (.s (.un .not (.t 59))))⟩, ⟨2,
    (.some 61), .none, (.o (.s (.mv (.t 60))))⟩, ⟨3, (.some 62), (.some (61, .false)), (.o (.s (.mv (.t 17))))⟩, ⟨4, (.some 63), (.some (61, .false)),
    (.o (.s (.bin .neq (.t 62) (.k (.int .i64 (0))))))⟩, ⟨5, (.some 64), .none, (.o (.s (.pick (.t 61) (.k (.bool .true)) (.t 63))))⟩, ⟨6, (.some 65), .none,
    (.o (.s (.mv (.t 64))))⟩, ⟨7, (.some 66), (.some (65, .false)), (.o (.s (.mv (.t 19))))⟩, ⟨8, (.some 67), (.some (65, .false)), (.o (.s (.bin .neq (.t 66)
    (.k (.int .i64 (0))))))⟩, ⟨9, (.some 68), .none, (.o (.s (.pick (.t 65) (.k (.bool .true)) (.t 67))))⟩, ⟨10, (.some 69), .none, (.o (.s (.mv (.t 68))))⟩, ⟨11,
    (.some 70), (.some (69, .false)), (.o (.s (.mv (.t 16))))⟩, ⟨12, (.some 71), (.some (69, .false)), (.o (.s (.len (.t 70))))⟩, ⟨13, (.some 72), (.some (69, .false)),
    (.o (.s (.mv (.t 18))))⟩, ⟨14, (.some 73), (.some (69, .false)), (.o (.s (.len (.t 72))))⟩, ⟨15, (.some 74), (.some (69, .false)), (.o (.s (.bin .neq (.t 71)
    (.t 73))))⟩, ⟨16, (.some 75), .none, (.o (.s (.pick (.t 69) (.k (.bool .true)) (.t 74))))⟩]) (.cond (.t 75) (.seq (.ops 1 [⟨0, (.some 10), .none,
    (.o (.s (.mv (.k (.bool .false)))))⟩]) .ret) .skip)) (.seq (.seq (.ops 1 [⟨0, (.some 20), .none, (.o (.s (.mv (.k (.int .i64 (0))))))⟩]) (.block 0 (.loop F4l2)))
    (.seq (.ops 1 [⟨0, (.some 22), .none, (.o (.s (.mv (.k .nils))))⟩]) (.seq (.seq (.ops 1 [⟨0, (.some 23), .none, (.o (.s (.mv (.k (.int .i64 (0))))))⟩])
    (.block 2 (.loop F4l1))) (.seq (.ops 11 [⟨0, (.some 154), .none, (.o (.s (.mv (.t 11))))⟩, ⟨1, (.some 155), .none, (.o (.s (.mv (.t 11))))⟩, ⟨2, (.some 156), .none,
    (.o (.s (.mv (.t 13))))⟩, ⟨3, (.some 157), .none, (.o (.s (.mv (.t 22))))⟩, ⟨4, (.some 158), .none, (.o (.s (.mv (.t 15))))⟩, ⟨5, (.some 159), .none,
    (.o (.call 8 [(.t 154), (.t 155), (.t 156), (.t 157), (.t 158)]))⟩, ⟨6, (.some 153), .none, (.o (.s (.mv (.t 159))))⟩, ⟨7, (.some 160), .none, (.o (.s (.ext (.t 153)
    0)))⟩, ⟨8, (.some 161), .none, (.o (.s (.ext (.t 153) 1)))⟩, ⟨9, (.some 24), .none, (.o (.s (.mv (.t 160))))⟩, ⟨10, (.some 25), .none, (.o (.s (.mv (.t 161))))⟩])
    (.seq (.seq (.ops 1 [⟨0, (.some 26), .none, (.o (.s (.mv (.k (.int .i64 (0))))))⟩]) (.block 4 (.loop F4l0))) (.seq (.ops 3 [⟨0, (.some 182), .none,
    (.o (.s (.mv (.t 25))))⟩, ⟨1, (.some 183), .none, (.o (.s (.bin .eql (.t 182) (.k (.int .i64 (0))))))⟩, ⟨2, (.some 10), .none, (.o (.s (.mv (.t 183))))⟩])
    .ret))))))))))))
noncomputable def F4b : Go.Code := Go.Proofs.Try.f4.body.getD .skip
theorem F4c : comp C [] F4b = some F4s.er := by kernel_rfl
theorem F4w : F4s.wf = true := by kernel_rfl
theorem F4d : Go.Proofs.Try.f4.body = some F4b := by kernel_rfl
@[simp] def F4q : List RV2 := [(.o (.tmp 10))]
theorem F4r : compRVs C Go.Proofs.Try.f4.results.toList = some (F4q.map RV2.er) := by kernel_rfl
theorem F4e : Enters Go.Proofs.Try.prog 4 := enters_of Go.Proofs.Try.func4 (by kernel_rfl) (by kernel_rfl)

/-- scarf/scarflaw17.ChunkSelf -- 0: box t10; 1: grows t4 t19 t24 t29 t30 t38 -/
def F5l0 : S2 :=
  (.seq (.seq (.ops 4 [⟨0, (.some 13), .none, (.o (.s (.mv (.t 5))))⟩, ⟨1, (.some 14), .none, (.o (.s (.mv (.t 3))))⟩, ⟨2, (.some 15), .none, (.o (.s (.len (.t 14))))⟩, ⟨3,
    (.some 16), .none, (.o (.s (.bin .lss (.t 13) (.t 15))))⟩]) (.cond (.t 16) .skip (.exit 0))) (.seq (.block 1 (.ops 7 [⟨0, (.some 19), .none, (.o (.s (.mv (.t 4))))⟩,
    ⟨1, (.some 20), .none, (.o (.s (.mv (.t 5))))⟩, ⟨2, (.some 21), .none, (.o (.s (.mv (.t 5))))⟩, ⟨3, (.some 22), .none, (.o (.s (.build [(.int .i64 (0)),
    (.int .i64 (0))] [(0, (1, (.t 20))), (1, (1, (.t 21)))])))⟩, ⟨4, (.some 23), .none, (.lbsl 2 31 2 1 [(.int .i64 (0)), (.int .i64 (0))] [(0, (.t 22))] .false)⟩, ⟨5,
    (.some 24), .none, (.lapp 1 31 2 16 (.t 19) (.t 23))⟩, ⟨6, (.some 4), .none, (.o (.s (.mv (.t 24))))⟩])) (.ops 3 [⟨0, (.some 17), .none, (.o (.s (.mv (.t 5))))⟩, ⟨1,
    (.some 18), .none, (.o (.s (.bin .add (.t 17) (.k (.int .i64 (1))))))⟩, ⟨2, (.some 5), .none, (.o (.s (.mv (.t 18))))⟩])))
theorem F5l0w : F5l0.wf = true := by kernel_rfl
def F5s : S2 :=
  (.seq (.ops 1 [⟨0, (.some 2), .none, (.o (.s (.mv (.k (.bool .false)))))⟩]) (.seq (.ops 3 [⟨0, (.some 11), .none, (.o (.s (.mv (.t 0))))⟩, ⟨1, (.some 12), .none,
    (.o (.call 7 [(.t 11)]))⟩, ⟨2, (.some 3), .none, (.o (.s (.mv (.t 12))))⟩]) (.seq (.ops 1 [⟨0, (.some 4), .none, (.o (.s (.mv (.k .nils))))⟩]) (.seq (.seq (.ops 1 [⟨0,
    (.some 5), .none, (.o (.s (.mv (.k (.int .i64 (0))))))⟩]) (.block 0 (.loop F5l0))) (.seq (.ops 11 [⟨0, (.some 26), .none, (.o (.s (.mv (.t 3))))⟩, ⟨1, (.some 27),
    .none, (.o (.s (.mv (.t 3))))⟩, ⟨2, (.some 28), .none, (.o (.s (.mv (.t 3))))⟩, ⟨3, (.some 29), .none, (.o (.s (.mv (.t 4))))⟩, ⟨4, (.some 30), .none,
    (.o (.s (.mv (.t 4))))⟩, ⟨5, (.some 31), .none, (.o (.call 8 [(.t 26), (.t 27), (.t 28), (.t 29), (.t 30)]))⟩, ⟨6, (.some 25), .none, (.o (.s (.mv (.t 31))))⟩, ⟨7,
    (.some 32), .none, (.o (.s (.ext (.t 25) 0)))⟩, ⟨8, (.some 33), .none, (.o (.s (.ext (.t 25) 1)))⟩, ⟨9, (.some 6), .none, (.o (.s (.mv (.t 32))))⟩, ⟨10, (.some 7),
    .none, (.o (.s (.mv (.t 33))))⟩]) (.seq (.ops 10 [⟨0, (.some 35), .none, (.o (.s (.mv (.t 3))))⟩, ⟨1, (.some 36), .none, (.o (.s (.mv (.t 3))))⟩, ⟨2, (.some 37),
    .none, (.o (.s (.mv (.t 3))))⟩, ⟨3, (.some 38), .none, (.o (.s (.mv (.t 4))))⟩, ⟨4, (.some 39), .none, (.o (.call 8 [(.t 35), (.t 36), (.t 37), (.k .nils),
    (.t 38)]))⟩, ⟨5, (.some 34), .none, (.o (.s (.mv (.t 39))))⟩, ⟨6, (.some 40), .none, (.o (.s (.ext (.t 34) 0)))⟩, ⟨7, (.some 41), .none, (.o (.s (.ext (.t 34) 1)))⟩,
    ⟨8, (.some 8), .none, (.o (.s (.mv (.t 40))))⟩, ⟨9, (.some 9), .none, (.o (.s (.mv (.t 41))))⟩]) (.seq (.seq (.ops 25 [⟨0, (.some 42), .none, (.o (.call 10 []))⟩, ⟨1,
    (.some 43), .none, (.o (.s (.un .not (.t 42))))⟩, ⟨2, (.some 44), .none, (.o (.s (.mv (.t 43))))⟩, ⟨3, (.some 45), (.some (44, .false)), (.o (.s (.mv (.t 7))))⟩, ⟨4,
    (.some 46), (.some (44, .false)), (.o (.s (.bin .neq (.t 45) (.k (.int .i64 (0))))))⟩, ⟨5, (.some 47), .none, (.o (.s (.pick (.t 44) (.k (.bool .true)) (.t 46))))⟩,
    ⟨6, (.some 48), .none, (.o (.s (.mv (.t 47))))⟩, ⟨7, (.some 49), (.some (48, .false)), (.o (.s (.mv (.t 9))))⟩, ⟨8, (.some 50), (.some (48, .false)),
    (.o (.s (.bin .neq (.t 49) (.k (.int .i64 (0))))))⟩, ⟨9, (.some 51), .none, (.o (.s (.pick (.t 48) (.k (.bool .true)) (.t 50))))⟩, ⟨10, (.some 52), .none,
    (.o (.s (.mv (.t 51))))⟩, ⟨11, (.some 53), (.some (52, .false)), (.o (.s (.mv (.t 6))))⟩, ⟨12, (.some 54), (.some (52, .false)), (.o (.s (.len (.t 53))))⟩, ⟨13,
    (.some 55), (.some (52, .false)), (.o (.s (.mv (.t 3))))⟩, ⟨14, (.some 56), (.some (52, .false)), (.o (.s (.len (.t 55))))⟩, ⟨15, (.some 57), (.some (52, .false)),
    (.o (.s (.mn (.t 56) (.k (.int .i64 (1))))))⟩, ⟨16, (.some 58), (.some (52, .false)), (.o (.s (.bin .neq (.t 54) (.t 57))))⟩, ⟨17, (.some 59), .none,
    (.o (.s (.pick (.t 52) (.k (.bool .true)) (.t 58))))⟩, ⟨18, (.some 60), .none, (.o (.s (.mv (.t 59))))⟩, ⟨19, (.some 61), (.some (60, .false)),
    (.o (.s (.mv (.t 8))))⟩, ⟨20, (.some 62), (.some (60, .false)), (.o (.s (.len (.t 61))))⟩, ⟨21, (.some 63), (.some (60, .false)), (.o (.s (.mv (.t 6))))⟩, ⟨22,
    (.some 64), (.some (60, .false)), (.o (.s (.len (.t 63))))⟩, ⟨23, (.some 65), (.some (60, .false)), (.o (.s (.bin .neq (.t 62) (.t 64))))⟩, ⟨24, (.some 66), .none,
    (.o (.s (.pick (.t 60) (.k (.bool .true)) (.t 65))))⟩]) (.cond (.t 66) (.seq (.ops 1 [⟨0, (.some 2), .none, (.o (.s (.mv (.k (.bool .false)))))⟩]) .ret) .skip))
    (.seq (.ops 5 [⟨0, (.some 67), .none, (.o (.s (.mv (.t 3))))⟩, ⟨1, (.some 68), .none, (.o (.s (.len (.t 67))))⟩, ⟨2, (.some 69), .none,
    (.o (.s (.build [(.int .i64 (0)), (.int .i64 (0))] [(0, (1, (.k (.int .i64 (0))))), (1, (1, (.t 68)))])))⟩, ⟨3, (.some 10), .none, (.lalloc 0 31 [(.int .i64 (0)),
    (.int .i64 (0))])⟩, ⟨4, .none, .none, (.lstore 0 2 (.t 10) (.t 69))⟩]) (.seq (.dops 24 [(⟨0, (.some 70), .none, (.o (.s (.mv (.t 3))))⟩, (.mk 0 [])), (⟨1, (.some 71),
    .none, (.o (.s (.len (.t 70))))⟩, (.mk 0 [])), (⟨2, (.some 72), .none, (.o (.s (.bin .eql (.t 71) (.k (.int .i64 (0))))))⟩, (.mk 0 [])), (⟨3, (.some 73), .none,
    (.o (.s (.mv (.t 72))))⟩, (.mk 0 [])), (⟨4, (.some 74), (.some (73, .false)), (.o (.s (.mv (.t 6))))⟩, (.mk 0 [])), (⟨5, (.some 75), (.some (73, .false)),
    (.o (.s (.ia 7 (.t 74) (.k (.int .i64 (0))))))⟩, (.mk 1 [])), (⟨6, (.some 76), (.some (73, .false)), (.o (.s (.load (.some 7) (.t 75))))⟩, (.mk 1 [])), (⟨7,
    (.some 77), (.some (73, .false)), (.lload 0 (.some 2) (.t 10))⟩, (.mk 1 [])), (⟨8, (.some 78), (.some (73, .false)), (.lload 0 (.some 2) (.t 10))⟩, (.mk 1 [])), (⟨9,
    (.some 79), (.some (73, .false)), (.lload 0 (.some 2) (.t 10))⟩, (.mk 1 [])), (⟨10, (.some 80), (.some (73, .false)), (.o (.s (.build [(.int .i64 (0)),
    (.int .i64 (0)), (.int .i64 (0)), (.int .i64 (0)), (.int .i64 (0)), (.int .i64 (0)), (.int .i64 (0))] [(0, (1, (.k (.int .i64 (1))))), (1, (2, (.t 77))), (3, (2,
    (.t 78))), (5, (2, (.t 79)))])))⟩, (.mk 0 [])), (⟨11, (.some 81), (.some (73, .false)), (.o (.s (.eqs (.agg [.int, .int, .int, .int, .int, .int, .int]) .false (.t 76)
    (.t 80))))⟩, (.mk 0 [])), (⟨12, (.some 82), (.some (73, .false)), (.o (.s (.mv (.t 81))))⟩, (.mk 0 [])), (⟨13, (.some 83), (.some (82, .true)),
    (.o (.s (.mv (.t 8))))⟩, (.mk 0 [])), (⟨14, (.some 84), (.some (82, .true)), (.o (.s (.ia 7 (.t 83) (.k (.int .i64 (0))))))⟩, (.mk 1 [])), (⟨15, (.some 85),
    (.some (82, .true)), (.o (.s (.load (.some 7) (.t 84))))⟩, (.mk 1 [])), (⟨16, (.some 86), (.some (82, .true)), (.lload 0 (.some 2) (.t 10))⟩, (.mk 1 [])), (⟨17,
    (.some 87), (.some (82, .true)), (.lload 0 (.some 2) (.t 10))⟩, (.mk 1 [])), (⟨18, (.some 88), (.some (82, .true)), (.lload 0 (.some 2) (.t 10))⟩, (.mk 1 [])), (⟨19,
    (.some 89), (.some (82, .true)), (.o (.s (.build [(.int .i64 (0)), (.int .i64 (0)), (.int .i64 (0)), (.int .i64 (0)), (.int .i64 (0)), (.int .i64 (0)),
    (.int .i64 (0))] [(0, (1, (.k (.int .i64 (4))))), (1, (2, (.t 86))), (3, (2, (.t 87))), (5, (2, (.t 88)))])))⟩, (.mk 0 [])), (⟨20, (.some 90), (.some (82, .true)),
    (.o (.s (.eqs (.agg [.int, .int, .int, .int, .int, .int, .int]) .false (.t 85) (.t 89))))⟩, (.mk 0 [])), (⟨21, (.some 91), (.some (73, .false)), (.o (.s (.pick (.t 82)
    (.t 90) (.k (.bool .false)))))⟩, (.mk 0 [])), (⟨22, (.some 92), .none, (.o (.s (.pick (.t 73) (.k (.bool .true)) (.t 91))))⟩, (.mk 0 [])), (⟨23, (.some 2), .none,
    (.o (.s (.mv (.t 92))))⟩, (.mk 0 []))]) .ret)))))))))
noncomputable def F5b : Go.Code := Go.Proofs.Try.f5.body.getD .skip
theorem F5c : comp C [] F5b = some F5s.er := by kernel_rfl
theorem F5w : F5s.wf = true := by kernel_rfl
theorem F5d : Go.Proofs.Try.f5.body = some F5b := by kernel_rfl
@[simp] def F5q : List RV2 := [(.o (.tmp 2))]
theorem F5r : compRVs C Go.Proofs.Try.f5.results.toList = some (F5q.map RV2.er) := by kernel_rfl
theorem F5e : Enters Go.Proofs.Try.prog 5 := enters_of Go.Proofs.Try.func5 (by kernel_rfl) (by kernel_rfl)

/-- scarf/scarflaw17.ChunkRows --  -/
def F6s : S2 :=
  (.seq (.ops 1 [⟨0, (.some 12), .none, (.o (.s (.mv (.k (.bool .false)))))⟩]) (.seq (.ops 9 [⟨0, (.some 22), .none, (.o (.s (.mv (.t 0))))⟩, ⟨1, (.some 23), .none,
    (.o (.call 7 [(.t 22)]))⟩, ⟨2, (.some 24), .none, (.o (.s (.mv (.t 1))))⟩, ⟨3, (.some 25), .none, (.o (.call 7 [(.t 24)]))⟩, ⟨4, (.some 26), .none,
    (.o (.s (.mv (.t 2))))⟩, ⟨5, (.some 27), .none, (.o (.call 7 [(.t 26)]))⟩, ⟨6, (.some 13), .none, (.o (.s (.mv (.t 23))))⟩, ⟨7, (.some 14), .none,
    (.o (.s (.mv (.t 25))))⟩, ⟨8, (.some 15), .none, (.o (.s (.mv (.t 27))))⟩]) (.seq (.seq (.ops 8 [⟨0, (.some 28), .none, (.o (.s (.mv (.t 3))))⟩, ⟨1, (.some 29), .none,
    (.o (.s (.len (.t 28))))⟩, ⟨2, (.some 30), .none, (.o (.s (.bin .gtr (.t 29) (.k (.int .i64 (100))))))⟩, ⟨3, (.some 31), .none, (.o (.s (.mv (.t 30))))⟩, ⟨4,
    (.some 32), (.some (31, .false)), (.o (.s (.mv (.t 4))))⟩, ⟨5, (.some 33), (.some (31, .false)), (.o (.s (.len (.t 32))))⟩, ⟨6, (.some 34), (.some (31, .false)),
    (.o (.s (.bin .gtr (.t 33) (.k (.int .i64 (100))))))⟩, ⟨7, (.some 35), .none, (.o (.s (.pick (.t 31) (.k (.bool .true)) (.t 34))))⟩]) (.cond (.t 35) (.seq (.ops 2 [⟨0,
    (.some 36), .none, (.o (.call 10 []))⟩, ⟨1, (.some 12), .none, (.o (.s (.mv (.t 36))))⟩]) .ret) .skip)) (.seq (.ops 11 [⟨0, (.some 38), .none,
    (.o (.s (.mv (.t 13))))⟩, ⟨1, (.some 39), .none, (.o (.s (.mv (.t 14))))⟩, ⟨2, (.some 40), .none, (.o (.s (.mv (.t 15))))⟩, ⟨3, (.some 41), .none,
    (.o (.s (.mv (.t 3))))⟩, ⟨4, (.some 42), .none, (.o (.s (.mv (.t 4))))⟩, ⟨5, (.some 43), .none, (.o (.call 8 [(.t 38), (.t 39), (.t 40), (.t 41), (.t 42)]))⟩, ⟨6,
    (.some 37), .none, (.o (.s (.mv (.t 43))))⟩, ⟨7, (.some 44), .none, (.o (.s (.ext (.t 37) 0)))⟩, ⟨8, (.some 45), .none, (.o (.s (.ext (.t 37) 1)))⟩, ⟨9, (.some 16),
    .none, (.o (.s (.mv (.t 44))))⟩, ⟨10, (.some 17), .none, (.o (.s (.mv (.t 45))))⟩]) (.seq (.ops 11 [⟨0, (.some 47), .none, (.o (.s (.mv (.t 13))))⟩, ⟨1, (.some 48),
    .none, (.o (.s (.mv (.t 14))))⟩, ⟨2, (.some 49), .none, (.o (.s (.mv (.t 15))))⟩, ⟨3, (.some 50), .none, (.o (.s (.mv (.t 3))))⟩, ⟨4, (.some 51), .none,
    (.o (.s (.mv (.t 4))))⟩, ⟨5, (.some 52), .none, (.o (.call 12 [(.t 47), (.t 48), (.t 49), (.t 50), (.t 51)]))⟩, ⟨6, (.some 46), .none, (.o (.s (.mv (.t 52))))⟩, ⟨7,
    (.some 53), .none, (.o (.s (.ext (.t 46) 0)))⟩, ⟨8, (.some 54), .none, (.o (.s (.ext (.t 46) 1)))⟩, ⟨9, (.some 18), .none, (.o (.s (.mv (.t 53))))⟩, ⟨10, (.some 19),
    .none, (.o (.s (.mv (.t 54))))⟩]) (.seq (.seq (.ops 13 [⟨0, (.some 55), .none, (.o (.call 10 []))⟩, ⟨1, (.some 56), .none, (.o (.s (.un .not (.t 55))))⟩, ⟨2,
    (.some 57), .none, (.o (.s (.mv (.t 56))))⟩, ⟨3, (.some 58), (.some (57, .false)), (.o (.s (.mv (.t 17))))⟩, ⟨4, (.some 59), (.some (57, .false)),
    (.o (.s (.mv (.t 19))))⟩, ⟨5, (.some 60), (.some (57, .false)), (.o (.s (.bin .neq (.t 58) (.t 59))))⟩, ⟨6, (.some 61), .none, (.o (.s (.pick (.t 57)
    (.k (.bool .true)) (.t 60))))⟩, ⟨7, (.some 62), .none, (.o (.s (.mv (.t 61))))⟩, ⟨8, (.some 63), (.some (62, .false)), (.o (.s (.mv (.t 16))))⟩, ⟨9, (.some 64),
    (.some (62, .false)), (.o (.s (.mv (.t 18))))⟩, ⟨10, (.some 65), (.some (62, .false)), (.o (.call 13 [(.t 63), (.t 64)]))⟩, ⟨11, (.some 66), (.some (62, .false)),
    (.o (.s (.un .not (.t 65))))⟩, ⟨12, (.some 67), .none, (.o (.s (.pick (.t 62) (.k (.bool .true)) (.t 66))))⟩]) (.cond (.t 67) (.seq (.ops 1 [⟨0, (.some 12), .none,
    (.o (.s (.mv (.k (.bool .false)))))⟩]) .ret) .skip)) (.seq (.ops 10 [⟨0, (.some 68), .none, (.o (.s (.mv (.t 13))))⟩, ⟨1, (.some 69), .none, (.o (.s (.mv (.t 14))))⟩,
    ⟨2, (.some 70), .none, (.o (.s (.mv (.t 3))))⟩, ⟨3, (.some 71), .none, (.o (.call 9 [(.t 68), (.t 69), (.t 70)]))⟩, ⟨4, (.some 72), .none, (.o (.s (.mv (.t 13))))⟩,
    ⟨5, (.some 73), .none, (.o (.s (.mv (.t 15))))⟩, ⟨6, (.some 74), .none, (.o (.s (.mv (.t 4))))⟩, ⟨7, (.some 75), .none, (.o (.call 9 [(.t 72), (.t 73), (.t 74)]))⟩,
    ⟨8, (.some 20), .none, (.o (.s (.mv (.t 71))))⟩, ⟨9, (.some 21), .none, (.o (.s (.mv (.t 75))))⟩]) (.seq (.seq (.ops 1 [⟨0, (.some 76), .none,
    (.o (.s (.mv (.t 5))))⟩]) (.cond (.t 76) (.seq (.ops 7 [⟨0, (.some 78), .none, (.o (.s (.mv (.t 13))))⟩, ⟨1, (.some 79), .none, (.o (.s (.mv (.t 14))))⟩, ⟨2,
    (.some 80), .none, (.o (.call 14 [(.t 78), (.t 79)]))⟩, ⟨3, (.some 77), .none, (.o (.s (.mv (.t 80))))⟩, ⟨4, (.some 81), .none, (.o (.s (.ext (.t 77) 0)))⟩, ⟨5,
    (.some 82), .none, (.o (.s (.ext (.t 77) 1)))⟩, ⟨6, (.some 20), .none, (.o (.s (.mv (.t 81))))⟩]) (.ops 7 [⟨0, (.some 84), .none, (.o (.s (.mv (.t 13))))⟩, ⟨1,
    (.some 85), .none, (.o (.s (.mv (.t 15))))⟩, ⟨2, (.some 86), .none, (.o (.call 14 [(.t 84), (.t 85)]))⟩, ⟨3, (.some 83), .none, (.o (.s (.mv (.t 86))))⟩, ⟨4,
    (.some 87), .none, (.o (.s (.ext (.t 83) 0)))⟩, ⟨5, (.some 88), .none, (.o (.s (.ext (.t 83) 1)))⟩, ⟨6, (.some 21), .none, (.o (.s (.mv (.t 87))))⟩])) .skip))
    (.seq (.ops 11 [⟨0, (.some 90), .none, (.o (.s (.mv (.t 13))))⟩, ⟨1, (.some 91), .none, (.o (.s (.mv (.t 14))))⟩, ⟨2, (.some 92), .none, (.o (.s (.mv (.t 15))))⟩, ⟨3,
    (.some 93), .none, (.o (.s (.mv (.t 20))))⟩, ⟨4, (.some 94), .none, (.o (.s (.mv (.t 21))))⟩, ⟨5, (.some 95), .none, (.o (.call 8 [(.t 90), (.t 91), (.t 92), (.t 93),
    (.t 94)]))⟩, ⟨6, (.some 89), .none, (.o (.s (.mv (.t 95))))⟩, ⟨7, (.some 96), .none, (.o (.s (.ext (.t 89) 0)))⟩, ⟨8, (.some 97), .none, (.o (.s (.ext (.t 89) 1)))⟩,
    ⟨9, (.some 16), .none, (.o (.s (.mv (.t 96))))⟩, ⟨10, (.some 17), .none, (.o (.s (.mv (.t 97))))⟩]) (.seq (.ops 11 [⟨0, (.some 99), .none, (.o (.s (.mv (.t 13))))⟩,
    ⟨1, (.some 100), .none, (.o (.s (.mv (.t 14))))⟩, ⟨2, (.some 101), .none, (.o (.s (.mv (.t 15))))⟩, ⟨3, (.some 102), .none, (.o (.s (.mv (.t 20))))⟩, ⟨4, (.some 103),
    .none, (.o (.s (.mv (.t 21))))⟩, ⟨5, (.some 104), .none, (.o (.call 12 [(.t 99), (.t 100), (.t 101), (.t 102), (.t 103)]))⟩, ⟨6, (.some 98), .none,
    (.o (.s (.mv (.t 104))))⟩, ⟨7, (.some 105), .none, (.o (.s (.ext (.t 98) 0)))⟩, ⟨8, (.some 106), .none, (.o (.s (.ext (.t 98) 1)))⟩, ⟨9, (.some 18), .none,
    (.o (.s (.mv (.t 105))))⟩, ⟨10, (.some 19), .none, (.o (.s (.mv (.t 106))))⟩]) (.seq (.ops 18 [⟨0, (.some 107), .none, (.o (.s (.mv (.t 17))))⟩, ⟨1, (.some 108),
    .none, (.o (.s (.bin .eql (.t 107) (.k (.int .i64 (0))))))⟩, ⟨2, (.some 109), .none, (.o (.s (.mv (.t 108))))⟩, ⟨3, (.some 110), (.some (109, .true)),
    (.o (.s (.mv (.t 19))))⟩, ⟨4, (.some 111), (.some (109, .true)), (.o (.s (.bin .eql (.t 110) (.k (.int .i64 (0))))))⟩, ⟨5, (.some 112), .none, (.o (.s (.pick (.t 109)
    (.t 111) (.k (.bool .false)))))⟩, ⟨6, (.some 113), .none, (.o (.s (.mv (.t 112))))⟩, ⟨7, (.some 114), (.some (113, .true)), (.o (.s (.mv (.t 16))))⟩, ⟨8, (.some 115),
    (.some (113, .true)), (.o (.s (.mv (.t 18))))⟩, ⟨9, (.some 116), (.some (113, .true)), (.o (.call 13 [(.t 114), (.t 115)]))⟩, ⟨10, (.some 117), .none,
    (.o (.s (.pick (.t 113) (.t 116) (.k (.bool .false)))))⟩, ⟨11, (.some 118), .none, (.o (.s (.mv (.t 117))))⟩, ⟨12, (.some 119), (.some (118, .true)),
    (.o (.s (.mv (.t 13))))⟩, ⟨13, (.some 120), (.some (118, .true)), (.o (.s (.mv (.t 0))))⟩, ⟨14, (.some 121), (.some (118, .true)), (.o (.call 7 [(.t 120)]))⟩, ⟨15,
    (.some 122), (.some (118, .true)), (.o (.call 11 [(.t 119), (.t 121)]))⟩, ⟨16, (.some 123), .none, (.o (.s (.pick (.t 118) (.t 122) (.k (.bool .false)))))⟩, ⟨17,
    (.some 12), .none, (.o (.s (.mv (.t 123))))⟩]) .ret)))))))))))
noncomputable def F6b : Go.Code := Go.Proofs.Try.f6.body.getD .skip
theorem F6c : comp C [] F6b = some F6s.er := by kernel_rfl
theorem F6w : F6s.wf = true := by kernel_rfl
theorem F6d : Go.Proofs.Try.f6.body = some F6b := by kernel_rfl
@[simp] def F6q : List RV2 := [(.o (.tmp 12))]
theorem F6r : compRVs C Go.Proofs.Try.f6.results.toList = some (F6q.map RV2.er) := by kernel_rfl
theorem F6e : Enters Go.Proofs.Try.prog 6 := enters_of Go.Proofs.Try.func6 (by kernel_rfl) (by kernel_rfl)

/-- scarf/scarflaw17.few -- 0: grows t2 t3 t16 t25 t26 -/
def F7l0 : S2 :=
  (.seq (.seq (.ops 4 [⟨0, (.some 10), .none, (.o (.s (.mv (.t 4))))⟩, ⟨1, (.some 11), .none, (.o (.s (.mv (.t 0))))⟩, ⟨2, (.some 12), .none, (.o (.s (.len (.t 11))))⟩, ⟨3,
    (.some 13), .none, (.o (.s (.bin .lss (.t 10) (.t 12))))⟩]) (.cond (.t 13) .skip (.exit 0))) (.seq (.block 1 (.ops 11 [⟨0, (.some 16), .none, (.o (.s (.mv (.t 3))))⟩,
    ⟨1, (.some 17), .none, (.o (.s (.mv (.t 0))))⟩, ⟨2, (.some 18), .none, (.o (.s (.mv (.t 4))))⟩, ⟨3, (.some 19), .none, (.o (.s (.ia 1 (.t 17) (.t 18))))⟩, ⟨4,
    (.some 20), .none, (.o (.s (.load .none (.t 19))))⟩, ⟨5, (.some 21), .none, (.o (.s (.cvi .u64 (.t 20))))⟩, ⟨6, (.some 22), .none, (.o (.s (.bin .rem (.t 21)
    (.k (.int .u64 (6))))))⟩, ⟨7, (.some 23), .none, (.o (.s (.cvi .i64 (.t 22))))⟩, ⟨8, (.some 24), .none, (.lbsl 1 3 1 1 [(.int .i64 (0))] [(0, (.t 23))] .false)⟩, ⟨9,
    (.some 25), .none, (.lapp 0 3 1 8 (.t 16) (.t 24))⟩, ⟨10, (.some 3), .none, (.o (.s (.mv (.t 25))))⟩])) (.ops 3 [⟨0, (.some 14), .none, (.o (.s (.mv (.t 4))))⟩, ⟨1,
    (.some 15), .none, (.o (.s (.bin .add (.t 14) (.k (.int .i64 (1))))))⟩, ⟨2, (.some 4), .none, (.o (.s (.mv (.t 15))))⟩])))
theorem F7l0w : F7l0.wf = true := by kernel_rfl
def F7s : S2 :=
  (.seq (.ops 1 [⟨0, (.some 2), .none, (.o (.s (.mv (.k .nils))))⟩]) (.seq (.seq (.ops 3 [⟨0, (.some 5), .none, (.o (.s (.mv (.t 0))))⟩, ⟨1, (.some 6), .none,
    (.o (.s (.len (.t 5))))⟩, ⟨2, (.some 7), .none, (.o (.s (.bin .gtr (.t 6) (.k (.int .i64 (80))))))⟩]) (.cond (.t 7) (.ops 3 [⟨0, (.some 8), .none,
    (.o (.s (.mv (.t 0))))⟩, ⟨1, (.some 9), .none, (.o (.s (.sub 1 (.t 8) .none (.some (.k (.int .i64 (80)))))))⟩, ⟨2, (.some 0), .none, (.o (.s (.mv (.t 9))))⟩]) .skip))
    (.seq (.ops 1 [⟨0, (.some 3), .none, (.o (.s (.mv (.k .nils))))⟩]) (.seq (.seq (.ops 1 [⟨0, (.some 4), .none, (.o (.s (.mv (.k (.int .i64 (0))))))⟩])
    (.block 0 (.loop F7l0))) (.seq (.ops 2 [⟨0, (.some 26), .none, (.o (.s (.mv (.t 3))))⟩, ⟨1, (.some 2), .none, (.o (.s (.mv (.t 26))))⟩]) .ret)))))
noncomputable def F7b : Go.Code := Go.Proofs.Try.f7.body.getD .skip
theorem F7c : comp C [] F7b = some F7s.er := by kernel_rfl
theorem F7w : F7s.wf = true := by kernel_rfl
theorem F7d : Go.Proofs.Try.f7.body = some F7b := by kernel_rfl
@[simp] def F7q : List RV2 := [(.o (.tmp 2))]
theorem F7r : compRVs C Go.Proofs.Try.f7.results.toList = some (F7q.map RV2.er) := by kernel_rfl
theorem F7e : Enters Go.Proofs.Try.prog 7 := enters_of Go.Proofs.Try.func7 (by kernel_rfl) (by kernel_rfl)

/-- scarf/chunk.Of -- 0: box t15; 1: box t17 -/
def F8l0 : S2 :=
  (.seq (.seq (.ops 6 [⟨0, (.some 100), .none, (.o (.s (.mv (.t 21))))⟩, ⟨1, (.some 101), .none, (.o (.s (.mv (.t 26))))⟩, ⟨2, (.some 102), .none,
    (.o (.s (.bin .add (.t 100) (.t 101))))⟩, ⟨3, (.some 103), .none, (.o (.s (.load .none (.t 5))))⟩, ⟨4, (.some 104), .none, (.o (.s (.len (.t 103))))⟩, ⟨5, (.some 105),
    .none, (.o (.s (.bin .lss (.t 102) (.t 104))))⟩]) (.cond (.t 105) .skip (.exit 6))) (.block 7 (.seq (.ops 10 [⟨0, (.some 107), .none, (.o (.s (.mv (.t 12))))⟩, ⟨1,
    (.some 108), .none, (.o (.s (.mv (.t 21))))⟩, ⟨2, (.some 109), .none, (.o (.s (.mv (.t 26))))⟩, ⟨3, (.some 110), .none, (.o (.s (.bin .add (.t 108) (.t 109))))⟩, ⟨4,
    (.some 111), .none, (.o (.s (.look .int (.int .i64 (0)) .true (.t 107) (.t 110))))⟩, ⟨5, (.some 106), .none, (.o (.s (.mv (.t 111))))⟩, ⟨6, (.some 112), .none,
    (.o (.s (.ext (.t 106) 0)))⟩, ⟨7, (.some 113), .none, (.o (.s (.ext (.t 106) 1)))⟩, ⟨8, (.some 27), .none, (.o (.s (.mv (.t 112))))⟩, ⟨9, (.some 28), .none,
    (.o (.s (.mv (.t 113))))⟩]) (.seq (.ops 10 [⟨0, (.some 115), .none, (.o (.s (.mv (.t 13))))⟩, ⟨1, (.some 116), .none, (.o (.s (.mv (.t 21))))⟩, ⟨2, (.some 117), .none,
    (.o (.s (.mv (.t 26))))⟩, ⟨3, (.some 118), .none, (.o (.s (.bin .add (.t 116) (.t 117))))⟩, ⟨4, (.some 119), .none, (.o (.s (.look .int (.int .i64 (0)) .true (.t 115)
    (.t 118))))⟩, ⟨5, (.some 114), .none, (.o (.s (.mv (.t 119))))⟩, ⟨6, (.some 120), .none, (.o (.s (.ext (.t 114) 0)))⟩, ⟨7, (.some 121), .none, (.o (.s (.ext (.t 114)
    1)))⟩, ⟨8, (.some 29), .none, (.o (.s (.mv (.t 120))))⟩, ⟨9, (.some 30), .none, (.o (.s (.mv (.t 121))))⟩]) (.seq (.seq (.ops 20 [⟨0, (.some 122), .none,
    (.o (.s (.mv (.t 28))))⟩, ⟨1, (.some 123), .none, (.o (.s (.un .not (.t 122))))⟩, ⟨2, (.some 124), .none, (.o (.s (.mv (.t 123))))⟩, ⟨3, (.some 125), (.some (124,
    .false)), (.o (.s (.mv (.t 30))))⟩, ⟨4, (.some 126), (.some (124, .false)), (.o (.s (.un .not (.t 125))))⟩, ⟨5, (.some 127), .none, (.o (.s (.pick (.t 124)
    (.k (.bool .true)) (.t 126))))⟩, ⟨6, (.some 128), .none, (.o (.s (.mv (.t 127))))⟩, ⟨7, (.some 129), (.some (128, .false)), (.o (.s (.mv (.t 27))))⟩, ⟨8, (.some 130),
    (.some (128, .false)), (.o (.s (.mv (.t 22))))⟩, ⟨9, (.some 131), (.some (128, .false)), (.o (.s (.mv (.t 26))))⟩, ⟨10, (.some 132), (.some (128, .false)),
    (.o (.s (.bin .add (.t 130) (.t 131))))⟩, ⟨11, (.some 133), (.some (128, .false)), (.o (.s (.bin .neq (.t 129) (.t 132))))⟩, ⟨12, (.some 134), .none,
    (.o (.s (.pick (.t 128) (.k (.bool .true)) (.t 133))))⟩, ⟨13, (.some 135), .none, (.o (.s (.mv (.t 134))))⟩, ⟨14, (.some 136), (.some (135, .false)),
    (.o (.s (.mv (.t 29))))⟩, ⟨15, (.some 137), (.some (135, .false)), (.o (.s (.mv (.t 24))))⟩, ⟨16, (.some 138), (.some (135, .false)), (.o (.s (.mv (.t 26))))⟩, ⟨17,
    (.some 139), (.some (135, .false)), (.o (.s (.bin .add (.t 137) (.t 138))))⟩, ⟨18, (.some 140), (.some (135, .false)), (.o (.s (.bin .neq (.t 136) (.t 139))))⟩, ⟨19,
    (.some 141), .none, (.o (.s (.pick (.t 135) (.k (.bool .true)) (.t 140))))⟩]) (.cond (.t 141) (.exit 6) .skip)) (.ops 3 [⟨0, (.some 142), .none,
    (.o (.s (.mv (.t 26))))⟩, ⟨1, (.some 143), .none, (.o (.s (.bin .add (.t 142) (.k (.int .i64 (1))))))⟩, ⟨2, (.some 26), .none, (.o (.s (.mv (.t 143))))⟩]))))))
theorem F8l0w : F8l0.wf = true := by kernel_rfl
def F8l1 : S2 :=
  (.seq (.seq (.ops 4 [⟨0, (.some 71), .none, (.o (.s (.mv (.t 21))))⟩, ⟨1, (.some 72), .none, (.o (.s (.load .none (.t 5))))⟩, ⟨2, (.some 73), .none,
    (.o (.s (.len (.t 72))))⟩, ⟨3, (.some 74), .none, (.o (.s (.bin .lss (.t 71) (.t 73))))⟩]) (.cond (.t 74) .skip (.exit 4))) (.seq (.block 5 (.seq (.ops 8 [⟨0,
    (.some 78), .none, (.o (.s (.mv (.t 12))))⟩, ⟨1, (.some 79), .none, (.o (.s (.mv (.t 21))))⟩, ⟨2, (.some 80), .none, (.o (.s (.look .int (.int .i64 (0)) .true (.t 78)
    (.t 79))))⟩, ⟨3, (.some 77), .none, (.o (.s (.mv (.t 80))))⟩, ⟨4, (.some 81), .none, (.o (.s (.ext (.t 77) 0)))⟩, ⟨5, (.some 82), .none, (.o (.s (.ext (.t 77) 1)))⟩,
    ⟨6, (.some 22), .none, (.o (.s (.mv (.t 81))))⟩, ⟨7, (.some 23), .none, (.o (.s (.mv (.t 82))))⟩]) (.seq (.ops 8 [⟨0, (.some 84), .none, (.o (.s (.mv (.t 13))))⟩, ⟨1,
    (.some 85), .none, (.o (.s (.mv (.t 21))))⟩, ⟨2, (.some 86), .none, (.o (.s (.look .int (.int .i64 (0)) .true (.t 84) (.t 85))))⟩, ⟨3, (.some 83), .none,
    (.o (.s (.mv (.t 86))))⟩, ⟨4, (.some 87), .none, (.o (.s (.ext (.t 83) 0)))⟩, ⟨5, (.some 88), .none, (.o (.s (.ext (.t 83) 1)))⟩, ⟨6, (.some 24), .none,
    (.o (.s (.mv (.t 87))))⟩, ⟨7, (.some 25), .none, (.o (.s (.mv (.t 88))))⟩]) (.seq (.seq (.ops 6 [⟨0, (.some 89), .none, (.o (.s (.mv (.t 23))))⟩, ⟨1, (.some 90),
    .none, (.o (.s (.un .not (.t 89))))⟩, ⟨2, (.some 91), .none, (.o (.s (.mv (.t 90))))⟩, ⟨3, (.some 92), (.some (91, .false)), (.o (.s (.mv (.t 25))))⟩, ⟨4, (.some 93),
    (.some (91, .false)), (.o (.s (.un .not (.t 92))))⟩, ⟨5, (.some 94), .none, (.o (.s (.pick (.t 91) (.k (.bool .true)) (.t 93))))⟩]) (.cond (.t 94) (.exit 5) .skip))
    (.seq (.ops 5 [⟨0, (.some 95), .none, (.o (.s (.mv (.t 20))))⟩, ⟨1, (.some 96), .none, (.o (.s (.mv (.t 21))))⟩, ⟨2, (.some 97), .none, (.o (.s (.mv (.t 22))))⟩, ⟨3,
    (.some 98), .none, (.o (.s (.mv (.t 24))))⟩, ⟨4, (.some 99), .none, (.o (.callv (.t 95) [(.t 96), (.t 97), (.t 98)]))⟩]) (.seq (.ops 1 [⟨0, (.some 26), .none,
    (.o (.s (.mv (.k (.int .i64 (1))))))⟩]) (.seq .skip (.seq (.block 6 (.loop F8l0)) (.seq (.ops 11 [⟨0, (.some 144), .none, (.o (.s (.mv (.t 21))))⟩, ⟨1, (.some 145),
    .none, (.o (.s (.mv (.t 26))))⟩, ⟨2, (.some 146), .none, (.o (.s (.bin .add (.t 144) (.t 145))))⟩, ⟨3, (.some 147), .none, (.o (.s (.mv (.t 22))))⟩, ⟨4, (.some 148),
    .none, (.o (.s (.mv (.t 26))))⟩, ⟨5, (.some 149), .none, (.o (.s (.bin .add (.t 147) (.t 148))))⟩, ⟨6, (.some 150), .none, (.o (.s (.mv (.t 24))))⟩, ⟨7, (.some 151),
    .none, (.o (.s (.mv (.t 26))))⟩, ⟨8, (.some 152), .none, (.o (.s (.bin .add (.t 150) (.t 151))))⟩, ⟨9, (.some 153), .none, (.o (.s (.build [(.int .i64 (0)),
    (.int .i64 (0)), (.int .i64 (0))] [(0, (1, (.t 146))), (1, (1, (.t 149))), (2, (1, (.t 152)))])))⟩, ⟨10, .none, .none, (.o (.s (.store 3 (.t 19) (.t 153))))⟩])
    (.seq (.ops 20 [⟨0, (.some 154), .none, (.o (.s (.load .none (.t 18))))⟩, ⟨1, (.some 155), .none, (.o (.s (.mv (.t 21))))⟩, ⟨2, (.some 156), .none,
    (.o (.s (.mv (.t 21))))⟩, ⟨3, (.some 157), .none, (.o (.s (.mv (.t 26))))⟩, ⟨4, (.some 158), .none, (.o (.s (.bin .add (.t 156) (.t 157))))⟩, ⟨5, (.some 159), .none,
    (.o (.s (.build [(.int .i64 (0)), (.int .i64 (0))] [(0, (1, (.t 155))), (1, (1, (.t 158)))])))⟩, ⟨6, (.some 160), .none, (.o (.s (.mv (.t 22))))⟩, ⟨7, (.some 161),
    .none, (.o (.s (.mv (.t 22))))⟩, ⟨8, (.some 162), .none, (.o (.s (.mv (.t 26))))⟩, ⟨9, (.some 163), .none, (.o (.s (.bin .add (.t 161) (.t 162))))⟩, ⟨10, (.some 164),
    .none, (.o (.s (.build [(.int .i64 (0)), (.int .i64 (0))] [(0, (1, (.t 160))), (1, (1, (.t 163)))])))⟩, ⟨11, (.some 165), .none, (.o (.s (.mv (.t 24))))⟩, ⟨12,
    (.some 166), .none, (.o (.s (.mv (.t 24))))⟩, ⟨13, (.some 167), .none, (.o (.s (.mv (.t 26))))⟩, ⟨14, (.some 168), .none, (.o (.s (.bin .add (.t 166) (.t 167))))⟩,
    ⟨15, (.some 169), .none, (.o (.s (.build [(.int .i64 (0)), (.int .i64 (0))] [(0, (1, (.t 165))), (1, (1, (.t 168)))])))⟩, ⟨16, (.some 170), .none,
    (.o (.s (.build [(.int .i64 (0)), (.int .i64 (0)), (.int .i64 (0)), (.int .i64 (0)), (.int .i64 (0)), (.int .i64 (0)), (.int .i64 (0))] [(0, (1,
    (.k (.int .i64 (1))))), (1, (2, (.t 159))), (3, (2, (.t 164))), (5, (2, (.t 169)))])))⟩, ⟨17, (.some 171), .none, (.lbsl 2 33 7 1 [(.int .i64 (0)), (.int .i64 (0)),
    (.int .i64 (0)), (.int .i64 (0)), (.int .i64 (0)), (.int .i64 (0)), (.int .i64 (0))] [(0, (.t 170))] .false)⟩, ⟨18, (.some 172), .none, (.o (.s (.app 33 7 56 (.t 154)
    (.t 171))))⟩, ⟨19, .none, .none, (.o (.s (.store 1 (.t 18) (.t 172))))⟩]) (.ops 5 [⟨0, (.some 173), .none, (.o (.s (.mv (.t 21))))⟩, ⟨1, (.some 174), .none,
    (.o (.s (.mv (.t 26))))⟩, ⟨2, (.some 175), .none, (.o (.s (.bin .sub (.t 174) (.k (.int .i64 (1))))))⟩, ⟨3, (.some 176), .none, (.o (.s (.bin .add (.t 173)
    (.t 175))))⟩, ⟨4, (.some 21), .none, (.o (.s (.mv (.t 176))))⟩]))))))))))) (.ops 3 [⟨0, (.some 75), .none, (.o (.s (.mv (.t 21))))⟩, ⟨1, (.some 76), .none,
    (.o (.s (.bin .add (.t 75) (.k (.int .i64 (1))))))⟩, ⟨2, (.some 21), .none, (.o (.s (.mv (.t 76))))⟩])))
theorem F8l1w : F8l1.wf = true := by kernel_rfl
def F8l2 : S2 :=
  (.seq (.ops 1 [⟨0, (.some 60), .none, (.o (.s (.bin .lss (.t 59) (.t 58))))⟩]) (.seq (.cond (.t 60) .skip (.exit 2)) (.seq (.block 3 (.seq (.ops 4 [⟨0, (.some 61), .none,
    (.o (.s (.ia 2 (.t 57) (.t 59))))⟩, ⟨1, (.some 62), .none, (.o (.s (.load (.some 2) (.t 61))))⟩, ⟨2, (.some 17), .none, (.lalloc 1 31 [(.int .i64 (0)),
    (.int .i64 (0))])⟩, ⟨3, .none, .none, (.lstore 1 2 (.t 17) (.t 62))⟩]) (.ops 6 [⟨0, (.some 63), .none, (.o (.s (.mv (.t 13))))⟩, ⟨1, (.some 64), .none,
    (.o (.s (.iaa 2 1 (.t 17) (.k (.int .i64 (0))))))⟩, ⟨2, (.some 65), .none, (.lload 1 .none (.t 64))⟩, ⟨3, (.some 66), .none, (.o (.s (.iaa 2 1 (.t 17)
    (.k (.int .i64 (1))))))⟩, ⟨4, (.some 67), .none, (.lload 1 .none (.t 66))⟩, ⟨5, .none, .none, (.o (.s (.mput .int (.t 63) (.t 65) (.t 67))))⟩]))) (.ops 2 [⟨0,
    (.some 68), .none, (.o (.s (.bin .add (.t 59) (.k (.int .i64 (1))))))⟩, ⟨1, (.some 59), .none, (.o (.s (.mv (.t 68))))⟩]))))
theorem F8l2w : F8l2.wf = true := by kernel_rfl
def F8l3 : S2 :=
  (.seq (.ops 1 [⟨0, (.some 48), .none, (.o (.s (.bin .lss (.t 47) (.t 46))))⟩]) (.seq (.cond (.t 48) .skip (.exit 0)) (.seq (.block 1 (.seq (.ops 4 [⟨0, (.some 49), .none,
    (.o (.s (.ia 2 (.t 45) (.t 47))))⟩, ⟨1, (.some 50), .none, (.o (.s (.load (.some 2) (.t 49))))⟩, ⟨2, (.some 15), .none, (.lalloc 0 31 [(.int .i64 (0)),
    (.int .i64 (0))])⟩, ⟨3, .none, .none, (.lstore 0 2 (.t 15) (.t 50))⟩]) (.ops 6 [⟨0, (.some 51), .none, (.o (.s (.mv (.t 12))))⟩, ⟨1, (.some 52), .none,
    (.o (.s (.iaa 2 1 (.t 15) (.k (.int .i64 (0))))))⟩, ⟨2, (.some 53), .none, (.lload 0 .none (.t 52))⟩, ⟨3, (.some 54), .none, (.o (.s (.iaa 2 1 (.t 15)
    (.k (.int .i64 (1))))))⟩, ⟨4, (.some 55), .none, (.lload 0 .none (.t 54))⟩, ⟨5, .none, .none, (.o (.s (.mput .int (.t 51) (.t 53) (.t 55))))⟩]))) (.ops 2 [⟨0,
    (.some 56), .none, (.o (.s (.bin .add (.t 47) (.k (.int .i64 (1))))))⟩, ⟨1, (.some 47), .none, (.o (.s (.mv (.t 56))))⟩]))))
theorem F8l3w : F8l3.wf = true := by kernel_rfl
def F8s : S2 :=
  (.seq (.ops 5 [⟨0, (.some 5), .none, (.o (.s (.box 22 (.t 0))))⟩, ⟨1, (.some 6), .none, (.o (.s (.box 22 (.t 1))))⟩, ⟨2, (.some 7), .none, (.o (.s (.box 22 (.t 2))))⟩, ⟨3,
    (.some 10), .none, (.o (.s (.mv (.k .nils))))⟩, ⟨4, (.some 11), .none, (.o (.s (.mv (.k (.int .i64 (0))))))⟩]) (.seq (.seq (.ops 12 [⟨0, (.some 31), .none,
    (.o (.s (.load .none (.t 5))))⟩, ⟨1, (.some 32), .none, (.o (.s (.load .none (.t 6))))⟩, ⟨2, (.some 33), .none, (.o (.s (.mv (.t 3))))⟩, ⟨3, (.some 34), .none,
    (.o (.call 15 [(.t 31), (.t 32), (.t 33)]))⟩, ⟨4, (.some 35), .none, (.o (.s (.un .not (.t 34))))⟩, ⟨5, (.some 36), .none, (.o (.s (.mv (.t 35))))⟩, ⟨6, (.some 37),
    (.some (36, .false)), (.o (.s (.load .none (.t 5))))⟩, ⟨7, (.some 38), (.some (36, .false)), (.o (.s (.load .none (.t 7))))⟩, ⟨8, (.some 39), (.some (36, .false)),
    (.o (.s (.mv (.t 4))))⟩, ⟨9, (.some 40), (.some (36, .false)), (.o (.call 15 [(.t 37), (.t 38), (.t 39)]))⟩, ⟨10, (.some 41), (.some (36, .false)),
    (.o (.s (.un .not (.t 40))))⟩, ⟨11, (.some 42), .none, (.o (.s (.pick (.t 36) (.k (.bool .true)) (.t 41))))⟩]) (.cond (.t 42) (.seq (.ops 2 [⟨0, (.some 10), .none,
    (.o (.s (.mv (.k .nils))))⟩, ⟨1, (.some 11), .none, (.o (.s (.mv (.k (.int .i64 (8))))))⟩]) .ret) .skip)) (.seq (.ops 4 [⟨0, (.some 43), .none,
    (.o (.s (.mkm .none)))⟩, ⟨1, (.some 44), .none, (.o (.s (.mkm .none)))⟩, ⟨2, (.some 12), .none, (.o (.s (.mv (.t 43))))⟩, ⟨3, (.some 13), .none,
    (.o (.s (.mv (.t 44))))⟩]) (.seq (.seq (.ops 3 [⟨0, (.some 45), .none, (.o (.s (.mv (.t 3))))⟩, ⟨1, (.some 46), .none, (.o (.s (.len (.t 45))))⟩, ⟨2, (.some 47),
    .none, (.o (.s (.mv (.k (.int .i64 (0))))))⟩]) (.block 0 (.loop F8l3))) (.seq (.seq (.ops 3 [⟨0, (.some 57), .none, (.o (.s (.mv (.t 4))))⟩, ⟨1, (.some 58), .none,
    (.o (.s (.len (.t 57))))⟩, ⟨2, (.some 59), .none, (.o (.s (.mv (.k (.int .i64 (0))))))⟩]) (.block 2 (.loop F8l2))) (.seq (.ops 1 [⟨0, (.some 18), .none,
    (.o (.s (.alloc 25 [.nils])))⟩]) (.seq (.ops 3 [⟨0, (.some 69), .none, (.o (.s (.build [(.int .i64 (0)), (.int .i64 (0)), (.int .i64 (0))] [])))⟩, ⟨1, (.some 19),
    .none, (.o (.s (.alloc 47 [(.int .i64 (0)), (.int .i64 (0)), (.int .i64 (0))])))⟩, ⟨2, .none, .none, (.o (.s (.store 3 (.t 19) (.t 69))))⟩]) (.seq (.ops 2 [⟨0,
    (.some 70), .none, (.o (.s (.mkf (.func 16) [] [(.t 19), (.t 18), (.t 5), (.t 6), (.t 7)])))⟩, ⟨1, (.some 20), .none, (.o (.s (.mv (.t 70))))⟩])
    (.seq (.seq (.ops 1 [⟨0, (.some 21), .none, (.o (.s (.mv (.k (.int .i64 (0))))))⟩]) (.block 4 (.loop F8l1))) (.seq (.ops 8 [⟨0, (.some 177), .none,
    (.o (.s (.mv (.t 20))))⟩, ⟨1, (.some 178), .none, (.o (.s (.load .none (.t 5))))⟩, ⟨2, (.some 179), .none, (.o (.s (.len (.t 178))))⟩, ⟨3, (.some 180), .none,
    (.o (.s (.load .none (.t 6))))⟩, ⟨4, (.some 181), .none, (.o (.s (.len (.t 180))))⟩, ⟨5, (.some 182), .none, (.o (.s (.load .none (.t 7))))⟩, ⟨6, (.some 183), .none,
    (.o (.s (.len (.t 182))))⟩, ⟨7, (.some 184), .none, (.o (.callv (.t 177) [(.t 179), (.t 181), (.t 183)]))⟩]) (.seq (.ops 3 [⟨0, (.some 185), .none,
    (.o (.s (.load .none (.t 18))))⟩, ⟨1, (.some 10), .none, (.o (.s (.mv (.t 185))))⟩, ⟨2, (.some 11), .none, (.o (.s (.mv (.k (.int .i64 (0))))))⟩]) .ret)))))))))))
noncomputable def F8b : Go.Code := Go.Proofs.Try.f8.body.getD .skip
theorem F8c : comp C [] F8b = some F8s.er := by kernel_rfl
theorem F8w : F8s.wf = true := by kernel_rfl
theorem F8d : Go.Proofs.Try.f8.body = some F8b := by kernel_rfl
@[simp] def F8q : List RV2 := [(.o (.tmp 10)), (.o (.tmp 11))]
theorem F8r : compRVs C Go.Proofs.Try.f8.results.toList = some (F8q.map RV2.er) := by kernel_rfl
theorem F8e : Enters Go.Proofs.Try.prog 8 := enters_of Go.Proofs.Try.func8 (by kernel_rfl) (by kernel_rfl)

/-- scarf/scarflaw17.pairs -- 0: grows t21 t23 t29; 1: grows t6 t7 t22 t31 t37 t38 -/
def F9l0 : S2 :=
  (.seq (.seq (.ops 8 [⟨0, (.some 9), .none, (.o (.s (.mv (.t 8))))⟩, ⟨1, (.some 10), .none, (.o (.s (.mv (.t 2))))⟩, ⟨2, (.some 11), .none, (.o (.s (.len (.t 10))))⟩, ⟨3,
    (.some 12), .none, (.o (.s (.bin .lss (.t 9) (.t 11))))⟩, ⟨4, (.some 13), .none, (.o (.s (.mv (.t 12))))⟩, ⟨5, (.some 14), (.some (13, .true)),
    (.o (.s (.mv (.t 8))))⟩, ⟨6, (.some 15), (.some (13, .true)), (.o (.s (.bin .lss (.t 14) (.k (.int .i64 (100))))))⟩, ⟨7, (.some 16), .none, (.o (.s (.pick (.t 13)
    (.t 15) (.k (.bool .false)))))⟩]) (.cond (.t 16) .skip (.exit 0))) (.seq (.block 1 (.seq (.dops 12 [(⟨0, (.some 19), .none, (.o (.s (.mv (.t 0))))⟩, (.mk 0 [])), (⟨1,
    (.some 20), .none, (.o (.s (.mv (.t 1))))⟩, (.mk 0 [])), (⟨3, (.some 22), .none, (.o (.s (.mv (.t 7))))⟩, (.mk 0 [])), (⟨5, (.some 24), .none, (.o (.s (.mv (.t 2))))⟩,
    (.mk 0 [])), (⟨6, (.some 25), .none, (.o (.s (.mv (.t 8))))⟩, (.mk 0 [])), (⟨7, (.some 26), .none, (.o (.s (.ia 2 (.t 24) (.t 25))))⟩, (.mk 1 [])), (⟨8, (.some 27),
    .none, (.o (.s (.load (.some 2) (.t 26))))⟩, (.mk 1 [])), (⟨2, (.some 21), .none, (.lbsl 0 31 2 0 [(.int .i64 (0)), (.int .i64 (0))] [] .false)⟩, (.mk 0 [2])), (⟨4,
    (.some 23), .none, (.lapp 0 31 2 16 (.t 21) (.t 22))⟩, (.mk 1 [2, 4])), (⟨9, (.some 28), .none, (.lbsl 2 31 2 1 [(.int .i64 (0)), (.int .i64 (0))] [(0, (.t 27))]
    .false)⟩, (.mk 0 [9])), (⟨10, (.some 29), .none, (.lapp 0 31 2 16 (.t 23) (.t 28))⟩, (.mk 0 [4, 10])), (⟨11, (.some 30), .none, (.o (.call 18 [(.t 19), (.t 20),
    (.t 29)]))⟩, (.mk 0 []))]) (.cond (.t 30) (.ops 8 [⟨0, (.some 31), .none, (.o (.s (.mv (.t 7))))⟩, ⟨1, (.some 32), .none, (.o (.s (.mv (.t 2))))⟩, ⟨2, (.some 33),
    .none, (.o (.s (.mv (.t 8))))⟩, ⟨3, (.some 34), .none, (.o (.s (.ia 2 (.t 32) (.t 33))))⟩, ⟨4, (.some 35), .none, (.o (.s (.load (.some 2) (.t 34))))⟩, ⟨5, (.some 36),
    .none, (.lbsl 2 31 2 1 [(.int .i64 (0)), (.int .i64 (0))] [(0, (.t 35))] .false)⟩, ⟨6, (.some 37), .none, (.lapp 1 31 2 16 (.t 31) (.t 36))⟩, ⟨7, (.some 7), .none,
    (.o (.s (.mv (.t 37))))⟩]) .skip))) (.ops 3 [⟨0, (.some 17), .none, (.o (.s (.mv (.t 8))))⟩, ⟨1, (.some 18), .none, (.o (.s (.bin .add (.t 17)
    (.k (.int .i64 (1))))))⟩, ⟨2, (.some 8), .none, (.o (.s (.mv (.t 18))))⟩])))
theorem F9l0w : F9l0.wf = true := by kernel_rfl
def F9s : S2 :=
  (.seq (.ops 1 [⟨0, (.some 6), .none, (.o (.s (.mv (.k .nils))))⟩]) (.seq (.ops 1 [⟨0, (.some 7), .none, (.o (.s (.mv (.k .nils))))⟩]) (.seq (.seq (.ops 1 [⟨0, (.some 8),
    .none, (.o (.s (.mv (.k (.int .i64 (0))))))⟩]) (.block 0 (.loop F9l0))) (.seq (.ops 2 [⟨0, (.some 38), .none, (.o (.s (.mv (.t 7))))⟩, ⟨1, (.some 6), .none,
    (.o (.s (.mv (.t 38))))⟩]) .ret))))
noncomputable def F9b : Go.Code := Go.Proofs.Try.f9.body.getD .skip
theorem F9c : comp C [] F9b = some F9s.er := by kernel_rfl
theorem F9w : F9s.wf = true := by kernel_rfl
theorem F9d : Go.Proofs.Try.f9.body = some F9b := by kernel_rfl
@[simp] def F9q : List RV2 := [(.o (.tmp 6))]
theorem F9r : compRVs C Go.Proofs.Try.f9.results.toList = some (F9q.map RV2.er) := by kernel_rfl
theorem F9e : Enters Go.Proofs.Try.prog 9 := enters_of Go.Proofs.Try.func9 (by kernel_rfl) (by kernel_rfl)

/-- scarf/scarflaw17.known --  -/
def F10s : S2 :=
  (.seq (.ops 1 [⟨0, (.some 0), .none, (.o (.s (.mv (.k (.bool .false)))))⟩]) (.seq (.ops 6 [⟨0, (.some 8), .none, (.lbsl 0 3 1 3 [(.int .i64 (0))] [(0,
    (.k (.int .i64 (1)))), (1, (.k (.int .i64 (2)))), (2, (.k (.int .i64 (3))))] .false)⟩, ⟨1, (.some 9), .none, (.lbsl 0 3 1 3 [(.int .i64 (0))] [(0,
    (.k (.int .i64 (1)))), (1, (.k (.int .i64 (9)))), (2, (.k (.int .i64 (3))))] .false)⟩, ⟨2, (.some 10), .none, (.lbsl 0 3 1 4 [(.int .i64 (0))] [(0,
    (.k (.int .i64 (1)))), (1, (.k (.int .i64 (2)))), (2, (.k (.int .i64 (3)))), (3, (.k (.int .i64 (4))))] .false)⟩, ⟨3, (.some 1), .none, (.o (.s (.mv (.t 8))))⟩, ⟨4,
    (.some 2), .none, (.o (.s (.mv (.t 9))))⟩, ⟨5, (.some 3), .none, (.o (.s (.mv (.t 10))))⟩]) (.seq (.ops 16 [⟨0, (.some 12), .none, (.o (.s (.mv (.t 1))))⟩, ⟨1,
    (.some 13), .none, (.o (.s (.mv (.t 2))))⟩, ⟨2, (.some 14), .none, (.o (.s (.mv (.t 3))))⟩, ⟨3, (.some 15), .none, (.o (.s (.build [(.int .i64 (0)), (.int .i64 (0))]
    [(0, (1, (.k (.int .i64 (0))))), (1, (1, (.k (.int .i64 (0)))))])))⟩, ⟨4, (.some 16), .none, (.o (.s (.build [(.int .i64 (0)), (.int .i64 (0))] [(0, (1,
    (.k (.int .i64 (2))))), (1, (1, (.k (.int .i64 (2)))))])))⟩, ⟨5, (.some 17), .none, (.lbsl 0 31 2 2 [(.int .i64 (0)), (.int .i64 (0))] [(0, (.t 15)), (1, (.t 16))]
    .false)⟩, ⟨6, (.some 18), .none, (.o (.s (.build [(.int .i64 (0)), (.int .i64 (0))] [(0, (1, (.k (.int .i64 (0))))), (1, (1, (.k (.int .i64 (0)))))])))⟩, ⟨7,
    (.some 19), .none, (.o (.s (.build [(.int .i64 (0)), (.int .i64 (0))] [(0, (1, (.k (.int .i64 (1))))), (1, (1, (.k (.int .i64 (1)))))])))⟩, ⟨8, (.some 20), .none,
    (.o (.s (.build [(.int .i64 (0)), (.int .i64 (0))] [(0, (1, (.k (.int .i64 (2))))), (1, (1, (.k (.int .i64 (2)))))])))⟩, ⟨9, (.some 21), .none,
    (.lbsl 0 31 2 3 [(.int .i64 (0)), (.int .i64 (0))] [(0, (.t 18)), (1, (.t 19)), (2, (.t 20))] .false)⟩, ⟨10, (.some 22), .none, (.o (.call 8 [(.t 12), (.t 13),
    (.t 14), (.t 17), (.t 21)]))⟩, ⟨11, (.some 11), .none, (.o (.s (.mv (.t 22))))⟩, ⟨12, (.some 23), .none, (.o (.s (.ext (.t 11) 0)))⟩, ⟨13, (.some 24), .none,
    (.o (.s (.ext (.t 11) 1)))⟩, ⟨14, (.some 4), .none, (.o (.s (.mv (.t 23))))⟩, ⟨15, (.some 5), .none, (.o (.s (.mv (.t 24))))⟩]) (.seq (.ops 11 [⟨0, (.some 26), .none,
    (.o (.s (.mv (.t 1))))⟩, ⟨1, (.some 27), .none, (.o (.s (.mv (.t 2))))⟩, ⟨2, (.some 28), .none, (.o (.s (.mv (.t 3))))⟩, ⟨3, (.some 29), .none,
    (.o (.s (.build [(.int .i64 (0)), (.int .i64 (0))] [(0, (1, (.k (.int .i64 (1))))), (1, (1, (.k (.int .i64 (1)))))])))⟩, ⟨4, (.some 30), .none,
    (.lbsl 0 31 2 1 [(.int .i64 (0)), (.int .i64 (0))] [(0, (.t 29))] .false)⟩, ⟨5, (.some 31), .none, (.o (.call 8 [(.t 26), (.t 27), (.t 28), (.t 30), (.k .nils)]))⟩,
    ⟨6, (.some 25), .none, (.o (.s (.mv (.t 31))))⟩, ⟨7, (.some 32), .none, (.o (.s (.ext (.t 25) 0)))⟩, ⟨8, (.some 33), .none, (.o (.s (.ext (.t 25) 1)))⟩, ⟨9, (.some 6),
    .none, (.o (.s (.mv (.t 32))))⟩, ⟨10, (.some 7), .none, (.o (.s (.mv (.t 33))))⟩]) (.seq (.ops 36 [⟨0, (.some 34), .none, (.o (.s (.mv (.t 5))))⟩, ⟨1, (.some 35),
    .none, (.o (.s (.bin .eql (.t 34) (.k (.int .i64 (0))))))⟩, ⟨2, (.some 36), .none, (.o (.s (.mv (.t 35))))⟩, ⟨3, (.some 37), (.some (36, .true)),
    (.o (.s (.mv (.t 4))))⟩, ⟨4, (.some 38), (.some (36, .true)), (.o (.s (.len (.t 37))))⟩, ⟨5, (.some 39), (.some (36, .true)), (.o (.s (.bin .eql (.t 38)
    (.k (.int .i64 (4))))))⟩, ⟨6, (.some 40), .none, (.o (.s (.pick (.t 36) (.t 39) (.k (.bool .false)))))⟩, ⟨7, (.some 41), .none, (.o (.s (.mv (.t 40))))⟩, ⟨8,
    (.some 42), (.some (41, .true)), (.o (.s (.mv (.t 4))))⟩, ⟨9, (.some 43), (.some (41, .true)), (.o (.s (.ia 7 (.t 42) (.k (.int .i64 (0))))))⟩, ⟨10, (.some 44),
    (.some (41, .true)), (.o (.s (.fa 0 (.t 43))))⟩, ⟨11, (.some 45), (.some (41, .true)), (.o (.s (.load .none (.t 44))))⟩, ⟨12, (.some 46), (.some (41, .true)),
    (.o (.s (.bin .eql (.t 45) (.k (.int .i64 (1))))))⟩, ⟨13, (.some 47), .none, (.o (.s (.pick (.t 41) (.t 46) (.k (.bool .false)))))⟩, ⟨14, (.some 48), .none,
    (.o (.s (.mv (.t 47))))⟩, ⟨15, (.some 49), (.some (48, .true)), (.o (.s (.mv (.t 4))))⟩, ⟨16, (.some 50), (.some (48, .true)), (.o (.s (.ia 7 (.t 49)
    (.k (.int .i64 (1))))))⟩, ⟨17, (.some 51), (.some (48, .true)), (.o (.s (.fa 0 (.t 50))))⟩, ⟨18, (.some 52), (.some (48, .true)), (.o (.s (.load .none (.t 51))))⟩,
    ⟨19, (.some 53), (.some (48, .true)), (.o (.s (.bin .eql (.t 52) (.k (.int .i64 (2))))))⟩, ⟨20, (.some 54), .none, (.o (.s (.pick (.t 48) (.t 53)
    (.k (.bool .false)))))⟩, ⟨21, (.some 55), .none, (.o (.s (.mv (.t 54))))⟩, ⟨22, (.some 56), (.some (55, .true)), (.o (.s (.mv (.t 4))))⟩, ⟨23, (.some 57), (.some (55,
    .true)), (.o (.s (.ia 7 (.t 56) (.k (.int .i64 (3))))))⟩, ⟨24, (.some 58), (.some (55, .true)), (.o (.s (.load (.some 7) (.t 57))))⟩, ⟨25, (.some 59), (.some (55,
    .true)), (.o (.s (.build [(.int .i64 (0)), (.int .i64 (0))] [(0, (1, (.k (.int .i64 (3))))), (1, (1, (.k (.int .i64 (3)))))])))⟩, ⟨26, (.some 60), (.some (55, .true)),
    (.o (.s (.build [(.int .i64 (0)), (.int .i64 (0))] [(0, (1, (.k (.int .i64 (3))))), (1, (1, (.k (.int .i64 (3)))))])))⟩, ⟨27, (.some 61), (.some (55, .true)),
    (.o (.s (.build [(.int .i64 (0)), (.int .i64 (0))] [(0, (1, (.k (.int .i64 (3))))), (1, (1, (.k (.int .i64 (4)))))])))⟩, ⟨28, (.some 62), (.some (55, .true)),
    (.o (.s (.build [(.int .i64 (0)), (.int .i64 (0)), (.int .i64 (0)), (.int .i64 (0)), (.int .i64 (0)), (.int .i64 (0)), (.int .i64 (0))] [(0, (1,
    (.k (.int .i64 (3))))), (1, (2, (.t 59))), (3, (2, (.t 60))), (5, (2, (.t 61)))])))⟩, ⟨29, (.some 63), (.some (55, .true)), (.o (.s (.eqs (.agg [.int, .int, .int,
    .int, .int, .int, .int]) .false (.t 58) (.t 62))))⟩, ⟨30, (.some 64), .none, (.o (.s (.pick (.t 55) (.t 63) (.k (.bool .false)))))⟩, ⟨31, (.some 65), .none,
    (.o (.s (.mv (.t 64))))⟩, ⟨32, (.some 66), (.some (65, .true)), (.o (.s (.mv (.t 7))))⟩, ⟨33, (.some 67), (.some (65, .true)), (.o (.s (.bin .eql (.t 66)
    (.k (.int .i64 (8))))))⟩, ⟨34, (.some 68), .none, (.o (.s (.pick (.t 65) (.t 67) (.k (.bool .false)))))⟩, ⟨35, (.some 0), .none, (.o (.s (.mv (.t 68))))⟩]) .ret)))))
noncomputable def F10b : Go.Code := Go.Proofs.Try.f10.body.getD .skip
theorem F10c : comp C [] F10b = some F10s.er := by kernel_rfl
theorem F10w : F10s.wf = true := by kernel_rfl
theorem F10d : Go.Proofs.Try.f10.body = some F10b := by kernel_rfl
@[simp] def F10q : List RV2 := [(.o (.tmp 0))]
theorem F10r : compRVs C Go.Proofs.Try.f10.results.toList = some (F10q.map RV2.er) := by kernel_rfl
theorem F10e : Enters Go.Proofs.Try.prog 10 := enters_of Go.Proofs.Try.func10 (by kernel_rfl) (by kernel_rfl)

/-- scarf/scarfref03.Same --  -/
def F11l0 : S2 :=
  (.seq (.seq (.ops 4 [⟨0, (.some 11), .none, (.o (.s (.mv (.t 5))))⟩, ⟨1, (.some 12), .none, (.o (.s (.mv (.t 0))))⟩, ⟨2, (.some 13), .none, (.o (.s (.len (.t 12))))⟩, ⟨3,
    (.some 14), .none, (.o (.s (.bin .lss (.t 11) (.t 13))))⟩]) (.cond (.t 14) .skip (.exit 0))) (.seq (.block 1 (.seq (.dops 9 [(⟨0, (.some 17), .none,
    (.o (.s (.mv (.t 0))))⟩, (.mk 0 [])), (⟨1, (.some 18), .none, (.o (.s (.mv (.t 5))))⟩, (.mk 0 [])), (⟨4, (.some 21), .none, (.o (.s (.mv (.t 1))))⟩, (.mk 0 [])), (⟨5,
    (.some 22), .none, (.o (.s (.mv (.t 5))))⟩, (.mk 0 [])), (⟨2, (.some 19), .none, (.o (.s (.ia 1 (.t 17) (.t 18))))⟩, (.mk 1 [])), (⟨3, (.some 20), .none,
    (.o (.s (.load .none (.t 19))))⟩, (.mk 1 [])), (⟨6, (.some 23), .none, (.o (.s (.ia 1 (.t 21) (.t 22))))⟩, (.mk 1 [])), (⟨7, (.some 24), .none,
    (.o (.s (.load .none (.t 23))))⟩, (.mk 1 [])), (⟨8, (.some 25), .none, (.o (.s (.bin .neq (.t 20) (.t 24))))⟩, (.mk 0 []))]) (.cond (.t 25) (.seq (.ops 1 [⟨0,
    (.some 4), .none, (.o (.s (.mv (.k (.bool .false)))))⟩]) .ret) .skip))) (.ops 3 [⟨0, (.some 15), .none, (.o (.s (.mv (.t 5))))⟩, ⟨1, (.some 16), .none,
    (.o (.s (.bin .add (.t 15) (.k (.int .i64 (1))))))⟩, ⟨2, (.some 5), .none, (.o (.s (.mv (.t 16))))⟩])))
theorem F11l0w : F11l0.wf = true := by kernel_rfl
def F11s : S2 :=
  (.seq (.ops 1 [⟨0, (.some 4), .none, (.o (.s (.mv (.k (.bool .false)))))⟩]) (.seq (.seq (.ops 5 [⟨0, (.some 6), .none, (.o (.s (.mv (.t 0))))⟩, ⟨1, (.some 7), .none,
    (.o (.s (.len (.t 6))))⟩, ⟨2, (.some 8), .none, (.o (.s (.mv (.t 1))))⟩, ⟨3, (.some 9), .none, (.o (.s (.len (.t 8))))⟩, ⟨4, (.some 10), .none,
    (.o (.s (.bin .neq (.t 7) (.t 9))))⟩]) (.cond (.t 10) (.seq (.ops 1 [⟨0, (.some 4), .none, (.o (.s (.mv (.k (.bool .false)))))⟩]) .ret) .skip))
    (.seq (.seq (.ops 1 [⟨0, (.some 5), .none, (.o (.s (.mv (.k (.int .i64 (0))))))⟩]) (.block 0 (.loop F11l0))) (.seq (.ops 1 [⟨0, (.some 4), .none,
    (.o (.s (.mv (.k (.bool .true)))))⟩]) .ret))))
noncomputable def F11b : Go.Code := Go.Proofs.Try.f11.body.getD .skip
theorem F11c : comp C [] F11b = some F11s.er := by kernel_rfl
theorem F11w : F11s.wf = true := by kernel_rfl
theorem F11d : Go.Proofs.Try.f11.body = some F11b := by kernel_rfl
@[simp] def F11q : List RV2 := [(.o (.tmp 4))]
theorem F11r : compRVs C Go.Proofs.Try.f11.results.toList = some (F11q.map RV2.er) := by kernel_rfl
theorem F11e : Enters Go.Proofs.Try.prog 11 := enters_of Go.Proofs.Try.func11 (by kernel_rfl) (by kernel_rfl)

/-- scarf/scarfref17.Of -- 0: box t22; 1: grows t10 t12 t233 t236 t243 t249 t268; 2: stack t13 t53 t59 t69 t79 t88 t98 t108 t118 t133 t134 t152 t154 t160 t168 t176 t237 t244 t250 t256 t262 -/
def F12l0 : S2 :=
  (.seq (.seq (.ops 4 [⟨0, (.some 153), .none, (.o (.s (.mv (.t 21))))⟩, ⟨1, (.some 154), .none, (.o (.s (.mv (.t 13))))⟩, ⟨2, (.some 155), .none,
    (.o (.s (.len (.t 154))))⟩, ⟨3, (.some 156), .none, (.o (.s (.bin .lss (.t 153) (.t 155))))⟩]) (.cond (.t 156) .skip (.exit 2))) (.seq (.block 3 (.seq (.dops 27 [(⟨0,
    (.some 159), .none, (.o (.s (.mv (.t 18))))⟩, (.mk 0 [])), (⟨1, (.some 160), .none, (.o (.s (.mv (.t 13))))⟩, (.mk 0 [])), (⟨2, (.some 161), .none,
    (.o (.s (.mv (.t 21))))⟩, (.mk 0 [])), (⟨8, (.some 167), .none, (.o (.s (.mv (.t 19))))⟩, (.mk 0 [])), (⟨9, (.some 168), .none, (.o (.s (.mv (.t 13))))⟩, (.mk 0 [])),
    (⟨10, (.some 169), .none, (.o (.s (.mv (.t 21))))⟩, (.mk 0 [])), (⟨16, (.some 175), .none, (.o (.s (.mv (.t 20))))⟩, (.mk 0 [])), (⟨17, (.some 176), .none,
    (.o (.s (.mv (.t 13))))⟩, (.mk 0 [])), (⟨18, (.some 177), .none, (.o (.s (.mv (.t 21))))⟩, (.mk 0 [])), (⟨3, (.some 162), .none, (.lia 2 7 (.t 160) (.t 161))⟩,
    (.mk 1 [])), (⟨4, (.some 163), .none, (.o (.s (.fa 1 (.t 162))))⟩, (.mk 0 [])), (⟨5, (.some 164), .none, (.o (.s (.iaa 2 1 (.t 163) (.k (.int .i64 (0))))))⟩,
    (.mk 0 [])), (⟨6, (.some 165), .none, (.lload 2 .none (.t 164))⟩, (.mk 1 [])), (⟨7, (.some 166), .none, (.o (.s (.build [(.int .i64 (0)), (.int .i64 (0))] [(0, (1,
    (.t 159))), (1, (1, (.t 165)))])))⟩, (.mk 0 [])), (⟨11, (.some 170), .none, (.lia 2 7 (.t 168) (.t 169))⟩, (.mk 1 [])), (⟨12, (.some 171), .none,
    (.o (.s (.fa 3 (.t 170))))⟩, (.mk 0 [])), (⟨13, (.some 172), .none, (.o (.s (.iaa 2 1 (.t 171) (.k (.int .i64 (0))))))⟩, (.mk 0 [])), (⟨14, (.some 173), .none,
    (.lload 2 .none (.t 172))⟩, (.mk 1 [])), (⟨15, (.some 174), .none, (.o (.s (.build [(.int .i64 (0)), (.int .i64 (0))] [(0, (1, (.t 167))), (1, (1, (.t 173)))])))⟩,
    (.mk 0 [])), (⟨19, (.some 178), .none, (.lia 2 7 (.t 176) (.t 177))⟩, (.mk 1 [])), (⟨20, (.some 179), .none, (.o (.s (.fa 5 (.t 178))))⟩, (.mk 0 [])), (⟨21,
    (.some 180), .none, (.o (.s (.iaa 2 1 (.t 179) (.k (.int .i64 (0))))))⟩, (.mk 0 [])), (⟨22, (.some 181), .none, (.lload 2 .none (.t 180))⟩, (.mk 1 [])), (⟨23,
    (.some 182), .none, (.o (.s (.build [(.int .i64 (0)), (.int .i64 (0))] [(0, (1, (.t 175))), (1, (1, (.t 181)))])))⟩, (.mk 0 [])), (⟨24, (.some 183), .none,
    (.o (.s (.build [(.int .i64 (0)), (.int .i64 (0)), (.int .i64 (0)), (.int .i64 (0)), (.int .i64 (0)), (.int .i64 (0)), (.int .i64 (0))] [(0, (1,
    (.k (.int .i64 (5))))), (1, (2, (.t 166))), (3, (2, (.t 174))), (5, (2, (.t 182)))])))⟩, (.mk 0 [])), (⟨25, (.some 22), .none, (.lalloc 0 52 [(.int .i64 (0)),
    (.int .i64 (0)), (.int .i64 (0)), (.int .i64 (0)), (.int .i64 (0)), (.int .i64 (0)), (.int .i64 (0))])⟩, (.mk 0 [25])), (⟨26, .none, .none, (.lstore 0 7 (.t 22)
    (.t 183))⟩, (.mk 0 [25]))]) (.seq (.seq (.ops 7 [⟨0, (.some 184), .none, (.o (.s (.mv (.t 2))))⟩, ⟨1, (.some 185), .none, (.o (.s (.fa 5 (.t 22))))⟩, ⟨2, (.some 186),
    .none, (.lload 0 (.some 2) (.t 185))⟩, ⟨3, (.some 187), .none, (.o (.s (.mv (.t 0))))⟩, ⟨4, (.some 188), .none, (.o (.s (.fa 1 (.t 22))))⟩, ⟨5, (.some 189), .none,
    (.lload 0 (.some 2) (.t 188))⟩, ⟨6, (.some 190), .none, (.o (.call 20 [(.t 184), (.t 186), (.t 187), (.t 189)]))⟩]) (.cond (.t 190) (.ops 2 [⟨0, (.some 191), .none,
    (.o (.s (.fa 0 (.t 22))))⟩, ⟨1, .none, .none, (.lstore 0 1 (.t 191) (.k (.int .i64 (2))))⟩]) .skip)) (.seq (.seq (.ops 7 [⟨0, (.some 192), .none,
    (.o (.s (.mv (.t 1))))⟩, ⟨1, (.some 193), .none, (.o (.s (.fa 3 (.t 22))))⟩, ⟨2, (.some 194), .none, (.lload 0 (.some 2) (.t 193))⟩, ⟨3, (.some 195), .none,
    (.o (.s (.mv (.t 0))))⟩, ⟨4, (.some 196), .none, (.o (.s (.fa 1 (.t 22))))⟩, ⟨5, (.some 197), .none, (.lload 0 (.some 2) (.t 196))⟩, ⟨6, (.some 198), .none,
    (.o (.call 20 [(.t 192), (.t 194), (.t 195), (.t 197)]))⟩]) (.cond (.t 198) (.ops 2 [⟨0, (.some 199), .none, (.o (.s (.fa 0 (.t 22))))⟩, ⟨1, .none, .none,
    (.lstore 0 1 (.t 199) (.k (.int .i64 (3))))⟩]) .skip)) (.seq (.seq (.ops 7 [⟨0, (.some 200), .none, (.o (.s (.mv (.t 1))))⟩, ⟨1, (.some 201), .none,
    (.o (.s (.fa 3 (.t 22))))⟩, ⟨2, (.some 202), .none, (.lload 0 (.some 2) (.t 201))⟩, ⟨3, (.some 203), .none, (.o (.s (.mv (.t 2))))⟩, ⟨4, (.some 204), .none,
    (.o (.s (.fa 5 (.t 22))))⟩, ⟨5, (.some 205), .none, (.lload 0 (.some 2) (.t 204))⟩, ⟨6, (.some 206), .none, (.o (.call 20 [(.t 200), (.t 202), (.t 203), (.t 205)]))⟩])
    (.cond (.t 206) (.ops 2 [⟨0, (.some 207), .none, (.o (.s (.fa 0 (.t 22))))⟩, ⟨1, .none, .none, (.lstore 0 1 (.t 207) (.k (.int .i64 (4))))⟩]) .skip))
    (.seq (.seq (.ops 25 [⟨0, (.some 208), .none, (.o (.s (.fa 1 (.t 22))))⟩, ⟨1, (.some 209), .none, (.o (.s (.iaa 2 1 (.t 208) (.k (.int .i64 (0))))))⟩, ⟨2, (.some 210),
    .none, (.lload 0 .none (.t 209))⟩, ⟨3, (.some 211), .none, (.o (.s (.fa 1 (.t 22))))⟩, ⟨4, (.some 212), .none, (.o (.s (.iaa 2 1 (.t 211) (.k (.int .i64 (1))))))⟩, ⟨5,
    (.some 213), .none, (.lload 0 .none (.t 212))⟩, ⟨6, (.some 214), .none, (.o (.s (.bin .lss (.t 210) (.t 213))))⟩, ⟨7, (.some 215), .none, (.o (.s (.mv (.t 214))))⟩,
    ⟨8, (.some 216), (.some (215, .false)), (.o (.s (.fa 3 (.t 22))))⟩, ⟨9, (.some 217), (.some (215, .false)), (.o (.s (.iaa 2 1 (.t 216) (.k (.int .i64 (0))))))⟩, ⟨10,
    (.some 218), (.some (215, .false)), (.lload 0 .none (.t 217))⟩, ⟨11, (.some 219), (.some (215, .false)), (.o (.s (.fa 3 (.t 22))))⟩, ⟨12, (.some 220), (.some (215,
    .false)), (.o (.s (.iaa 2 1 (.t 219) (.k (.int .i64 (1))))))⟩, ⟨13, (.some 221), (.some (215, .false)), (.lload 0 .none (.t 220))⟩, ⟨14, (.some 222), (.some (215,
    .false)), (.o (.s (.bin .lss (.t 218) (.t 221))))⟩, ⟨15, (.some 223), .none, (.o (.s (.pick (.t 215) (.k (.bool .true)) (.t 222))))⟩, ⟨16, (.some 224), .none,
    (.o (.s (.mv (.t 223))))⟩, ⟨17, (.some 225), (.some (224, .false)), (.o (.s (.fa 5 (.t 22))))⟩, ⟨18, (.some 226), (.some (224, .false)), (.o (.s (.iaa 2 1 (.t 225)
    (.k (.int .i64 (0))))))⟩, ⟨19, (.some 227), (.some (224, .false)), (.lload 0 .none (.t 226))⟩, ⟨20, (.some 228), (.some (224, .false)), (.o (.s (.fa 5 (.t 22))))⟩,
    ⟨21, (.some 229), (.some (224, .false)), (.o (.s (.iaa 2 1 (.t 228) (.k (.int .i64 (1))))))⟩, ⟨22, (.some 230), (.some (224, .false)), (.lload 0 .none (.t 229))⟩, ⟨23,
    (.some 231), (.some (224, .false)), (.o (.s (.bin .lss (.t 227) (.t 230))))⟩, ⟨24, (.some 232), .none, (.o (.s (.pick (.t 224) (.k (.bool .true)) (.t 231))))⟩])
    (.cond (.t 232) (.ops 5 [⟨0, (.some 233), .none, (.o (.s (.mv (.t 12))))⟩, ⟨1, (.some 234), .none, (.lload 0 (.some 7) (.t 22))⟩, ⟨2, (.some 235), .none,
    (.lbsl 3 52 7 1 [(.int .i64 (0)), (.int .i64 (0)), (.int .i64 (0)), (.int .i64 (0)), (.int .i64 (0)), (.int .i64 (0)), (.int .i64 (0))] [(0, (.t 234))] .false)⟩, ⟨3,
    (.some 236), .none, (.lapp 1 52 7 56 (.t 233) (.t 235))⟩, ⟨4, (.some 12), .none, (.o (.s (.mv (.t 236))))⟩]) .skip)) (.seq (.seq (.ops 6 [⟨0, (.some 237), .none,
    (.o (.s (.mv (.t 13))))⟩, ⟨1, (.some 238), .none, (.o (.s (.mv (.t 21))))⟩, ⟨2, (.some 239), .none, (.lia 2 7 (.t 237) (.t 238))⟩, ⟨3, (.some 240), .none,
    (.o (.s (.fa 0 (.t 239))))⟩, ⟨4, (.some 241), .none, (.lload 2 .none (.t 240))⟩, ⟨5, (.some 242), .none, (.o (.s (.bin .eql (.t 241) (.k (.int .i64 (1))))))⟩])
    (.cond (.t 242) (.ops 8 [⟨0, (.some 243), .none, (.o (.s (.mv (.t 12))))⟩, ⟨1, (.some 244), .none, (.o (.s (.mv (.t 13))))⟩, ⟨2, (.some 245), .none,
    (.o (.s (.mv (.t 21))))⟩, ⟨3, (.some 246), .none, (.lia 2 7 (.t 244) (.t 245))⟩, ⟨4, (.some 247), .none, (.lload 2 (.some 7) (.t 246))⟩, ⟨5, (.some 248), .none,
    (.lbsl 3 52 7 1 [(.int .i64 (0)), (.int .i64 (0)), (.int .i64 (0)), (.int .i64 (0)), (.int .i64 (0)), (.int .i64 (0)), (.int .i64 (0))] [(0, (.t 247))] .false)⟩, ⟨6,
    (.some 249), .none, (.lapp 1 52 7 56 (.t 243) (.t 248))⟩, ⟨7, (.some 12), .none, (.o (.s (.mv (.t 249))))⟩]) .skip)) (.dops 21 [(⟨0, (.some 250), .none,
    (.o (.s (.mv (.t 13))))⟩, (.mk 0 [])), (⟨1, (.some 251), .none, (.o (.s (.mv (.t 21))))⟩, (.mk 0 [])), (⟨6, (.some 256), .none, (.o (.s (.mv (.t 13))))⟩, (.mk 0 [])),
    (⟨7, (.some 257), .none, (.o (.s (.mv (.t 21))))⟩, (.mk 0 [])), (⟨12, (.some 262), .none, (.o (.s (.mv (.t 13))))⟩, (.mk 0 [])), (⟨13, (.some 263), .none,
    (.o (.s (.mv (.t 21))))⟩, (.mk 0 [])), (⟨2, (.some 252), .none, (.lia 2 7 (.t 250) (.t 251))⟩, (.mk 1 [])), (⟨3, (.some 253), .none, (.o (.s (.fa 1 (.t 252))))⟩,
    (.mk 0 [])), (⟨4, (.some 254), .none, (.o (.s (.iaa 2 1 (.t 253) (.k (.int .i64 (1))))))⟩, (.mk 0 [])), (⟨5, (.some 255), .none, (.lload 2 .none (.t 254))⟩,
    (.mk 1 [])), (⟨18, (.some 18), .none, (.o (.s (.mv (.t 255))))⟩, (.mk 0 [])), (⟨8, (.some 258), .none, (.lia 2 7 (.t 256) (.t 257))⟩, (.mk 1 [])), (⟨9, (.some 259),
    .none, (.o (.s (.fa 3 (.t 258))))⟩, (.mk 0 [])), (⟨10, (.some 260), .none, (.o (.s (.iaa 2 1 (.t 259) (.k (.int .i64 (1))))))⟩, (.mk 0 [])), (⟨11, (.some 261), .none,
    (.lload 2 .none (.t 260))⟩, (.mk 1 [])), (⟨19, (.some 19), .none, (.o (.s (.mv (.t 261))))⟩, (.mk 0 [])), (⟨14, (.some 264), .none, (.lia 2 7 (.t 262) (.t 263))⟩,
    (.mk 1 [])), (⟨15, (.some 265), .none, (.o (.s (.fa 5 (.t 264))))⟩, (.mk 0 [])), (⟨16, (.some 266), .none, (.o (.s (.iaa 2 1 (.t 265) (.k (.int .i64 (1))))))⟩,
    (.mk 0 [])), (⟨17, (.some 267), .none, (.lload 2 .none (.t 266))⟩, (.mk 1 [])), (⟨20, (.some 20), .none, (.o (.s (.mv (.t 267))))⟩, (.mk 0 []))])))))))) (.ops 3 [⟨0,
    (.some 157), .none, (.o (.s (.mv (.t 21))))⟩, ⟨1, (.some 158), .none, (.o (.s (.bin .add (.t 157) (.k (.int .i64 (1))))))⟩, ⟨2, (.some 21), .none,
    (.o (.s (.mv (.t 158))))⟩])))
theorem F12l0w : F12l0.wf = true := by kernel_rfl
def F12l1 : S2 :=
  (.seq (.seq (.ops 4 [⟨0, (.some 35), .none, (.o (.s (.mv (.t 14))))⟩, ⟨1, (.some 36), .none, (.o (.s (.mv (.t 0))))⟩, ⟨2, (.some 37), .none, (.o (.s (.len (.t 36))))⟩, ⟨3,
    (.some 38), .none, (.o (.s (.bin .lss (.t 35) (.t 37))))⟩]) (.cond (.t 38) .skip (.exit 0))) (.seq (.block 1 (.seq (.ops 8 [⟨0, (.some 41), .none,
    (.o (.s (.mv (.t 3))))⟩, ⟨1, (.some 42), .none, (.o (.s (.mv (.t 14))))⟩, ⟨2, (.some 43), .none, (.o (.call 19 [(.t 41), (.t 42)]))⟩, ⟨3, (.some 44), .none,
    (.o (.s (.mv (.t 4))))⟩, ⟨4, (.some 45), .none, (.o (.s (.mv (.t 14))))⟩, ⟨5, (.some 46), .none, (.o (.call 19 [(.t 44), (.t 45)]))⟩, ⟨6, (.some 15), .none,
    (.o (.s (.mv (.t 43))))⟩, ⟨7, (.some 16), .none, (.o (.s (.mv (.t 46))))⟩]) (.seq (.seq (.ops 6 [⟨0, (.some 47), .none, (.o (.s (.mv (.t 15))))⟩, ⟨1, (.some 48),
    .none, (.o (.s (.bin .lss (.t 47) (.k (.int .i64 (0))))))⟩, ⟨2, (.some 49), .none, (.o (.s (.mv (.t 48))))⟩, ⟨3, (.some 50), (.some (49, .false)),
    (.o (.s (.mv (.t 16))))⟩, ⟨4, (.some 51), (.some (49, .false)), (.o (.s (.bin .lss (.t 50) (.k (.int .i64 (0))))))⟩, ⟨5, (.some 52), .none, (.o (.s (.pick (.t 49)
    (.k (.bool .true)) (.t 51))))⟩]) (.cond (.t 52) (.exit 1) .skip)) (.seq (.ops 4 [⟨0, (.some 53), .none, (.o (.s (.mv (.t 13))))⟩, ⟨1, (.some 54), .none,
    (.o (.s (.len (.t 53))))⟩, ⟨2, (.some 55), .none, (.o (.s (.bin .sub (.t 54) (.k (.int .i64 (1))))))⟩, ⟨3, (.some 17), .none, (.o (.s (.mv (.t 55))))⟩])
    (.seq (.seq (.ops 32 [⟨0, (.some 56), .none, (.o (.s (.mv (.t 17))))⟩, ⟨1, (.some 57), .none, (.o (.s (.bin .geq (.t 56) (.k (.int .i64 (0))))))⟩, ⟨2, (.some 58),
    .none, (.o (.s (.mv (.t 57))))⟩, ⟨3, (.some 59), (.some (58, .true)), (.o (.s (.mv (.t 13))))⟩, ⟨4, (.some 60), (.some (58, .true)), (.o (.s (.mv (.t 17))))⟩, ⟨5,
    (.some 61), (.some (58, .true)), (.lia 2 7 (.t 59) (.t 60))⟩, ⟨6, (.some 62), (.some (58, .true)), (.o (.s (.fa 1 (.t 61))))⟩, ⟨7, (.some 63), (.some (58, .true)),
    (.o (.s (.iaa 2 1 (.t 62) (.k (.int .i64 (1))))))⟩, ⟨8, (.some 64), (.some (58, .true)), (.lload 2 .none (.t 63))⟩, ⟨9, (.some 65), (.some (58, .true)),
    (.o (.s (.mv (.t 14))))⟩, ⟨10, (.some 66), (.some (58, .true)), (.o (.s (.bin .eql (.t 64) (.t 65))))⟩, ⟨11, (.some 67), .none, (.o (.s (.pick (.t 58) (.t 66)
    (.k (.bool .false)))))⟩, ⟨12, (.some 68), .none, (.o (.s (.mv (.t 67))))⟩, ⟨13, (.some 69), (.some (68, .true)), (.o (.s (.mv (.t 13))))⟩, ⟨14, (.some 70), (.some (68,
    .true)), (.o (.s (.mv (.t 17))))⟩, ⟨15, (.some 71), (.some (68, .true)), (.lia 2 7 (.t 69) (.t 70))⟩, ⟨16, (.some 72), (.some (68, .true)), (.o (.s (.fa 3 (.t 71))))⟩,
    ⟨17, (.some 73), (.some (68, .true)), (.o (.s (.iaa 2 1 (.t 72) (.k (.int .i64 (1))))))⟩, ⟨18, (.some 74), (.some (68, .true)), (.lload 2 .none (.t 73))⟩, ⟨19,
    (.some 75), (.some (68, .true)), (.o (.s (.mv (.t 15))))⟩, ⟨20, (.some 76), (.some (68, .true)), (.o (.s (.bin .eql (.t 74) (.t 75))))⟩, ⟨21, (.some 77), .none,
    (.o (.s (.pick (.t 68) (.t 76) (.k (.bool .false)))))⟩, ⟨22, (.some 78), .none, (.o (.s (.mv (.t 77))))⟩, ⟨23, (.some 79), (.some (78, .true)),
    (.o (.s (.mv (.t 13))))⟩, ⟨24, (.some 80), (.some (78, .true)), (.o (.s (.mv (.t 17))))⟩, ⟨25, (.some 81), (.some (78, .true)), (.lia 2 7 (.t 79) (.t 80))⟩, ⟨26,
    (.some 82), (.some (78, .true)), (.o (.s (.fa 5 (.t 81))))⟩, ⟨27, (.some 83), (.some (78, .true)), (.o (.s (.iaa 2 1 (.t 82) (.k (.int .i64 (1))))))⟩, ⟨28, (.some 84),
    (.some (78, .true)), (.lload 2 .none (.t 83))⟩, ⟨29, (.some 85), (.some (78, .true)), (.o (.s (.mv (.t 16))))⟩, ⟨30, (.some 86), (.some (78, .true)),
    (.o (.s (.bin .eql (.t 84) (.t 85))))⟩, ⟨31, (.some 87), .none, (.o (.s (.pick (.t 78) (.t 86) (.k (.bool .false)))))⟩]) (.cond (.t 87) (.seq (.dops 11 [(⟨0,
    (.some 88), .none, (.o (.s (.mv (.t 13))))⟩, (.mk 0 [])), (⟨1, (.some 89), .none, (.o (.s (.mv (.t 17))))⟩, (.mk 0 [])), (⟨2, (.some 90), .none, (.lia 2 7 (.t 88)
    (.t 89))⟩, (.mk 1 [])), (⟨3, (.some 91), .none, (.o (.s (.fa 1 (.t 90))))⟩, (.mk 0 [])), (⟨4, (.some 92), .none, (.o (.s (.iaa 2 1 (.t 91) (.k (.int .i64 (1))))))⟩,
    (.mk 0 [])), (⟨5, (.some 93), .none, (.lload 2 .none (.t 92))⟩, (.mk 1 [])), (⟨6, (.some 94), .none, (.o (.s (.bin .add (.t 93) (.k (.int .i64 (1))))))⟩, (.mk 0 [])),
    (⟨7, (.some 95), .none, (.lia 2 7 (.t 88) (.t 89))⟩, (.mk 1 [])), (⟨8, (.some 96), .none, (.o (.s (.fa 1 (.t 95))))⟩, (.mk 0 [])), (⟨9, (.some 97), .none,
    (.o (.s (.iaa 2 1 (.t 96) (.k (.int .i64 (1))))))⟩, (.mk 0 [])), (⟨10, .none, .none, (.lstore 2 1 (.t 97) (.t 94))⟩, (.mk 2 []))]) (.seq (.dops 11 [(⟨0, (.some 98),
    .none, (.o (.s (.mv (.t 13))))⟩, (.mk 0 [])), (⟨1, (.some 99), .none, (.o (.s (.mv (.t 17))))⟩, (.mk 0 [])), (⟨2, (.some 100), .none, (.lia 2 7 (.t 98) (.t 99))⟩,
    (.mk 1 [])), (⟨3, (.some 101), .none, (.o (.s (.fa 3 (.t 100))))⟩, (.mk 0 [])), (⟨4, (.some 102), .none, (.o (.s (.iaa 2 1 (.t 101) (.k (.int .i64 (1))))))⟩,
    (.mk 0 [])), (⟨5, (.some 103), .none, (.lload 2 .none (.t 102))⟩, (.mk 1 [])), (⟨6, (.some 104), .none, (.o (.s (.bin .add (.t 103) (.k (.int .i64 (1))))))⟩,
    (.mk 0 [])), (⟨7, (.some 105), .none, (.lia 2 7 (.t 98) (.t 99))⟩, (.mk 1 [])), (⟨8, (.some 106), .none, (.o (.s (.fa 3 (.t 105))))⟩, (.mk 0 [])), (⟨9, (.some 107),
    .none, (.o (.s (.iaa 2 1 (.t 106) (.k (.int .i64 (1))))))⟩, (.mk 0 [])), (⟨10, .none, .none, (.lstore 2 1 (.t 107) (.t 104))⟩, (.mk 2 []))]) (.seq (.dops 11 [(⟨0,
    (.some 108), .none, (.o (.s (.mv (.t 13))))⟩, (.mk 0 [])), (⟨1, (.some 109), .none, (.o (.s (.mv (.t 17))))⟩, (.mk 0 [])), (⟨2, (.some 110), .none, (.lia 2 7 (.t 108)
    (.t 109))⟩, (.mk 1 [])), (⟨3, (.some 111), .none, (.o (.s (.fa 5 (.t 110))))⟩, (.mk 0 [])), (⟨4, (.some 112), .none, (.o (.s (.iaa 2 1 (.t 111)
    (.k (.int .i64 (1))))))⟩, (.mk 0 [])), (⟨5, (.some 113), .none, (.lload 2 .none (.t 112))⟩, (.mk 1 [])), (⟨6, (.some 114), .none, (.o (.s (.bin .add (.t 113)
    (.k (.int .i64 (1))))))⟩, (.mk 0 [])), (⟨7, (.some 115), .none, (.lia 2 7 (.t 108) (.t 109))⟩, (.mk 1 [])), (⟨8, (.some 116), .none, (.o (.s (.fa 5 (.t 115))))⟩,
    (.mk 0 [])), (⟨9, (.some 117), .none, (.o (.s (.iaa 2 1 (.t 116) (.k (.int .i64 (1))))))⟩, (.mk 0 [])), (⟨10, .none, .none, (.lstore 2 1 (.t 117) (.t 114))⟩,
    (.mk 2 []))]) (.exit 1)))) .skip)) (.ops 17 [⟨0, (.some 118), .none, (.o (.s (.mv (.t 13))))⟩, ⟨1, (.some 119), .none, (.o (.s (.mv (.t 14))))⟩, ⟨2, (.some 120),
    .none, (.o (.s (.mv (.t 14))))⟩, ⟨3, (.some 121), .none, (.o (.s (.bin .add (.t 120) (.k (.int .i64 (1))))))⟩, ⟨4, (.some 122), .none,
    (.o (.s (.build [(.int .i64 (0)), (.int .i64 (0))] [(0, (1, (.t 119))), (1, (1, (.t 121)))])))⟩, ⟨5, (.some 123), .none, (.o (.s (.mv (.t 15))))⟩, ⟨6, (.some 124),
    .none, (.o (.s (.mv (.t 15))))⟩, ⟨7, (.some 125), .none, (.o (.s (.bin .add (.t 124) (.k (.int .i64 (1))))))⟩, ⟨8, (.some 126), .none,
    (.o (.s (.build [(.int .i64 (0)), (.int .i64 (0))] [(0, (1, (.t 123))), (1, (1, (.t 125)))])))⟩, ⟨9, (.some 127), .none, (.o (.s (.mv (.t 16))))⟩, ⟨10, (.some 128),
    .none, (.o (.s (.mv (.t 16))))⟩, ⟨11, (.some 129), .none, (.o (.s (.bin .add (.t 128) (.k (.int .i64 (1))))))⟩, ⟨12, (.some 130), .none,
    (.o (.s (.build [(.int .i64 (0)), (.int .i64 (0))] [(0, (1, (.t 127))), (1, (1, (.t 129)))])))⟩, ⟨13, (.some 131), .none, (.o (.s (.build [(.int .i64 (0)),
    (.int .i64 (0)), (.int .i64 (0)), (.int .i64 (0)), (.int .i64 (0)), (.int .i64 (0)), (.int .i64 (0))] [(0, (1, (.k (.int .i64 (1))))), (1, (2, (.t 122))), (3, (2,
    (.t 126))), (5, (2, (.t 130)))])))⟩, ⟨14, (.some 132), .none, (.lbsl 3 52 7 1 [(.int .i64 (0)), (.int .i64 (0)), (.int .i64 (0)), (.int .i64 (0)), (.int .i64 (0)),
    (.int .i64 (0)), (.int .i64 (0))] [(0, (.t 131))] .false)⟩, ⟨15, (.some 133), .none, (.lgrow 2 52 7 56 (.t 118) (.t 132))⟩, ⟨16, (.some 13), .none,
    (.o (.s (.mv (.t 133))))⟩])))))) (.ops 3 [⟨0, (.some 39), .none, (.o (.s (.mv (.t 14))))⟩, ⟨1, (.some 40), .none, (.o (.s (.bin .add (.t 39) (.k (.int .i64 (1))))))⟩,
    ⟨2, (.some 14), .none, (.o (.s (.mv (.t 40))))⟩])))
theorem F12l1w : F12l1.wf = true := by kernel_rfl
def F12s : S2 :=
  (.seq (.ops 2 [⟨0, (.some 10), .none, (.o (.s (.mv (.k .nils))))⟩, ⟨1, (.some 11), .none, (.o (.s (.mv (.k (.int .i64 (0))))))⟩]) (.seq (.seq (.ops 12 [⟨0, (.some 23),
    .none, (.o (.s (.mv (.t 0))))⟩, ⟨1, (.some 24), .none, (.o (.s (.mv (.t 1))))⟩, ⟨2, (.some 25), .none, (.o (.s (.mv (.t 3))))⟩, ⟨3, (.some 26), .none,
    (.o (.call 18 [(.t 23), (.t 24), (.t 25)]))⟩, ⟨4, (.some 27), .none, (.o (.s (.un .not (.t 26))))⟩, ⟨5, (.some 28), .none, (.o (.s (.mv (.t 27))))⟩, ⟨6, (.some 29),
    (.some (28, .false)), (.o (.s (.mv (.t 0))))⟩, ⟨7, (.some 30), (.some (28, .false)), (.o (.s (.mv (.t 2))))⟩, ⟨8, (.some 31), (.some (28, .false)),
    (.o (.s (.mv (.t 4))))⟩, ⟨9, (.some 32), (.some (28, .false)), (.o (.call 18 [(.t 29), (.t 30), (.t 31)]))⟩, ⟨10, (.some 33), (.some (28, .false)),
    (.o (.s (.un .not (.t 32))))⟩, ⟨11, (.some 34), .none, (.o (.s (.pick (.t 28) (.k (.bool .true)) (.t 33))))⟩]) (.cond (.t 34) (.seq (.ops 2 [⟨0, (.some 10), .none,
    (.o (.s (.mv (.k .nils))))⟩, ⟨1, (.some 11), .none, (.o (.s (.mv (.k (.int .i64 (8))))))⟩]) .ret) .skip)) (.seq (.ops 1 [⟨0, (.some 12), .none,
    (.o (.s (.mv (.k .nils))))⟩]) (.seq (.ops 1 [⟨0, (.some 13), .none, (.o (.s (.mv (.k .nils))))⟩]) (.seq (.seq (.ops 1 [⟨0, (.some 14), .none,
    (.o (.s (.mv (.k (.int .i64 (0))))))⟩]) (.block 0 (.loop F12l1))) (.seq (.ops 20 [⟨0, (.some 134), .none, (.o (.s (.mv (.t 13))))⟩, ⟨1, (.some 135), .none,
    (.o (.s (.mv (.t 0))))⟩, ⟨2, (.some 136), .none, (.o (.s (.len (.t 135))))⟩, ⟨3, (.some 137), .none, (.o (.s (.mv (.t 0))))⟩, ⟨4, (.some 138), .none,
    (.o (.s (.len (.t 137))))⟩, ⟨5, (.some 139), .none, (.o (.s (.build [(.int .i64 (0)), (.int .i64 (0))] [(0, (1, (.t 136))), (1, (1, (.t 138)))])))⟩, ⟨6, (.some 140),
    .none, (.o (.s (.mv (.t 1))))⟩, ⟨7, (.some 141), .none, (.o (.s (.len (.t 140))))⟩, ⟨8, (.some 142), .none, (.o (.s (.mv (.t 1))))⟩, ⟨9, (.some 143), .none,
    (.o (.s (.len (.t 142))))⟩, ⟨10, (.some 144), .none, (.o (.s (.build [(.int .i64 (0)), (.int .i64 (0))] [(0, (1, (.t 141))), (1, (1, (.t 143)))])))⟩, ⟨11, (.some 145),
    .none, (.o (.s (.mv (.t 2))))⟩, ⟨12, (.some 146), .none, (.o (.s (.len (.t 145))))⟩, ⟨13, (.some 147), .none, (.o (.s (.mv (.t 2))))⟩, ⟨14, (.some 148), .none,
    (.o (.s (.len (.t 147))))⟩, ⟨15, (.some 149), .none, (.o (.s (.build [(.int .i64 (0)), (.int .i64 (0))] [(0, (1, (.t 146))), (1, (1, (.t 148)))])))⟩, ⟨16, (.some 150),
    .none, (.o (.s (.build [(.int .i64 (0)), (.int .i64 (0)), (.int .i64 (0)), (.int .i64 (0)), (.int .i64 (0)), (.int .i64 (0)), (.int .i64 (0))] [(0, (1,
    (.k (.int .i64 (0))))), (1, (2, (.t 139))), (3, (2, (.t 144))), (5, (2, (.t 149)))])))⟩, ⟨17, (.some 151), .none, (.lbsl 3 52 7 1 [(.int .i64 (0)), (.int .i64 (0)),
    (.int .i64 (0)), (.int .i64 (0)), (.int .i64 (0)), (.int .i64 (0)), (.int .i64 (0))] [(0, (.t 150))] .false)⟩, ⟨18, (.some 152), .none, (.lgrow 2 52 7 56 (.t 134)
    (.t 151))⟩, ⟨19, (.some 13), .none, (.o (.s (.mv (.t 152))))⟩]) (.seq (.ops 3 [⟨0, (.some 18), .none, (.o (.s (.mv (.k (.int .i64 (0))))))⟩, ⟨1, (.some 19), .none,
    (.o (.s (.mv (.k (.int .i64 (0))))))⟩, ⟨2, (.some 20), .none, (.o (.s (.mv (.k (.int .i64 (0))))))⟩]) (.seq (.seq (.ops 1 [⟨0, (.some 21), .none,
    (.o (.s (.mv (.k (.int .i64 (0))))))⟩]) (.block 2 (.loop F12l0))) (.seq (.ops 3 [⟨0, (.some 268), .none, (.o (.s (.mv (.t 12))))⟩, ⟨1, (.some 10), .none,
    (.o (.s (.mv (.t 268))))⟩, ⟨2, (.some 11), .none, (.o (.s (.mv (.k (.int .i64 (0))))))⟩]) .ret)))))))))
noncomputable def F12b : Go.Code := Go.Proofs.Try.f12.body.getD .skip
theorem F12c : comp C [(15, 15), (16, 18)] F12b = some F12s.er := by kernel_rfl
theorem F12w : F12s.wf = true := by kernel_rfl
theorem F12d : Go.Proofs.Try.f12.body = some F12b := by kernel_rfl
@[simp] def F12q : List RV2 := [(.o (.tmp 10)), (.o (.tmp 11))]
theorem F12r : compRVs C Go.Proofs.Try.f12.results.toList = some (F12q.map RV2.er) := by kernel_rfl
theorem F12e : Enters Go.Proofs.Try.prog 12 := enters_of Go.Proofs.Try.func12 (by kernel_rfl) (by kernel_rfl)

/-- scarf/scarflaw17.same --  -/
def F13l0 : S2 :=
  (.seq (.seq (.ops 4 [⟨0, (.some 11), .none, (.o (.s (.mv (.t 5))))⟩, ⟨1, (.some 12), .none, (.o (.s (.mv (.t 0))))⟩, ⟨2, (.some 13), .none, (.o (.s (.len (.t 12))))⟩, ⟨3,
    (.some 14), .none, (.o (.s (.bin .lss (.t 11) (.t 13))))⟩]) (.cond (.t 14) .skip (.exit 0))) (.seq (.block 1 (.seq (.dops 50 [(⟨0, (.some 17), .none,
    (.o (.s (.mv (.t 0))))⟩, (.mk 0 [])), (⟨1, (.some 18), .none, (.o (.s (.mv (.t 5))))⟩, (.mk 0 [])), (⟨5, (.some 22), .none, (.o (.s (.mv (.t 1))))⟩, (.mk 0 [])), (⟨6,
    (.some 23), .none, (.o (.s (.mv (.t 5))))⟩, (.mk 0 [])), (⟨2, (.some 19), .none, (.o (.s (.ia 7 (.t 17) (.t 18))))⟩, (.mk 1 [])), (⟨3, (.some 20), .none,
    (.o (.s (.fa 0 (.t 19))))⟩, (.mk 0 [])), (⟨4, (.some 21), .none, (.o (.s (.load .none (.t 20))))⟩, (.mk 1 [])), (⟨7, (.some 24), .none, (.o (.s (.ia 7 (.t 22)
    (.t 23))))⟩, (.mk 1 [])), (⟨8, (.some 25), .none, (.o (.s (.fa 0 (.t 24))))⟩, (.mk 0 [])), (⟨9, (.some 26), .none, (.o (.s (.load .none (.t 25))))⟩, (.mk 1 [])), (⟨10,
    (.some 27), .none, (.o (.s (.bin .neq (.t 21) (.t 26))))⟩, (.mk 0 [])), (⟨11, (.some 28), .none, (.o (.s (.mv (.t 27))))⟩, (.mk 0 [])), (⟨12, (.some 29), (.some (28,
    .false)), (.o (.s (.mv (.t 0))))⟩, (.mk 0 [])), (⟨13, (.some 30), (.some (28, .false)), (.o (.s (.mv (.t 5))))⟩, (.mk 0 [])), (⟨17, (.some 34), (.some (28, .false)),
    (.o (.s (.mv (.t 1))))⟩, (.mk 0 [])), (⟨18, (.some 35), (.some (28, .false)), (.o (.s (.mv (.t 5))))⟩, (.mk 0 [])), (⟨14, (.some 31), (.some (28, .false)),
    (.o (.s (.ia 7 (.t 29) (.t 30))))⟩, (.mk 1 [])), (⟨15, (.some 32), (.some (28, .false)), (.o (.s (.fa 1 (.t 31))))⟩, (.mk 0 [])), (⟨16, (.some 33), (.some (28,
    .false)), (.o (.s (.load (.some 2) (.t 32))))⟩, (.mk 1 [])), (⟨19, (.some 36), (.some (28, .false)), (.o (.s (.ia 7 (.t 34) (.t 35))))⟩, (.mk 1 [])), (⟨20, (.some 37),
    (.some (28, .false)), (.o (.s (.fa 1 (.t 36))))⟩, (.mk 0 [])), (⟨21, (.some 38), (.some (28, .false)), (.o (.s (.load (.some 2) (.t 37))))⟩, (.mk 1 [])), (⟨22,
    (.some 39), (.some (28, .false)), (.o (.s (.eqs (.agg [.int, .int]) .true (.t 33) (.t 38))))⟩, (.mk 0 [])), (⟨23, (.some 40), .none, (.o (.s (.pick (.t 28)
    (.k (.bool .true)) (.t 39))))⟩, (.mk 0 [])), (⟨24, (.some 41), .none, (.o (.s (.mv (.t 40))))⟩, (.mk 0 [])), (⟨25, (.some 42), (.some (41, .false)),
    (.o (.s (.mv (.t 0))))⟩, (.mk 0 [])), (⟨26, (.some 43), (.some (41, .false)), (.o (.s (.mv (.t 5))))⟩, (.mk 0 [])), (⟨30, (.some 47), (.some (41, .false)),
    (.o (.s (.mv (.t 1))))⟩, (.mk 0 [])), (⟨31, (.some 48), (.some (41, .false)), (.o (.s (.mv (.t 5))))⟩, (.mk 0 [])), (⟨27, (.some 44), (.some (41, .false)),
    (.o (.s (.ia 7 (.t 42) (.t 43))))⟩, (.mk 1 [])), (⟨28, (.some 45), (.some (41, .false)), (.o (.s (.fa 3 (.t 44))))⟩, (.mk 0 [])), (⟨29, (.some 46), (.some (41,
    .false)), (.o (.s (.load (.some 2) (.t 45))))⟩, (.mk 1 [])), (⟨32, (.some 49), (.some (41, .false)), (.o (.s (.ia 7 (.t 47) (.t 48))))⟩, (.mk 1 [])), (⟨33, (.some 50),
    (.some (41, .false)), (.o (.s (.fa 3 (.t 49))))⟩, (.mk 0 [])), (⟨34, (.some 51), (.some (41, .false)), (.o (.s (.load (.some 2) (.t 50))))⟩, (.mk 1 [])), (⟨35,
    (.some 52), (.some (41, .false)), (.o (.s (.eqs (.agg [.int, .int]) .true (.t 46) (.t 51))))⟩, (.mk 0 [])), (⟨36, (.some 53), .none, (.o (.s (.pick (.t 41)
    (.k (.bool .true)) (.t 52))))⟩, (.mk 0 [])), (⟨37, (.some 54), .none, (.o (.s (.mv (.t 53))))⟩, (.mk 0 [])), (⟨38, (.some 55), (.some (54, .false)),
    (.o (.s (.mv (.t 0))))⟩, (.mk 0 [])), (⟨39, (.some 56), (.some (54, .false)), (.o (.s (.mv (.t 5))))⟩, (.mk 0 [])), (⟨43, (.some 60), (.some (54, .false)),
    (.o (.s (.mv (.t 1))))⟩, (.mk 0 [])), (⟨44, (.some 61), (.some (54, .false)), (.o (.s (.mv (.t 5))))⟩, (.mk 0 [])), (⟨40, (.some 57), (.some (54, .false)),
    (.o (.s (.ia 7 (.t 55) (.t 56))))⟩, (.mk 1 [])), (⟨41, (.some 58), (.some (54, .false)), (.o (.s (.fa 5 (.t 57))))⟩, (.mk 0 [])), (⟨42, (.some 59), (.some (54,
    .false)), (.o (.s (.load (.some 2) (.t 58))))⟩, (.mk 1 [])), (⟨45, (.some 62), (.some (54, .false)), (.o (.s (.ia 7 (.t 60) (.t 61))))⟩, (.mk 1 [])), (⟨46, (.some 63),
    (.some (54, .false)), (.o (.s (.fa 5 (.t 62))))⟩, (.mk 0 [])), (⟨47, (.some 64), (.some (54, .false)), (.o (.s (.load (.some 2) (.t 63))))⟩, (.mk 1 [])), (⟨48,
    (.some 65), (.some (54, .false)), (.o (.s (.eqs (.agg [.int, .int]) .true (.t 59) (.t 64))))⟩, (.mk 0 [])), (⟨49, (.some 66), .none, (.o (.s (.pick (.t 54)
    (.k (.bool .true)) (.t 65))))⟩, (.mk 0 []))]) (.cond (.t 66) (.seq (.ops 1 [⟨0, (.some 4), .none, (.o (.s (.mv (.k (.bool .false)))))⟩]) .ret) .skip))) (.ops 3 [⟨0,
    (.some 15), .none, (.o (.s (.mv (.t 5))))⟩, ⟨1, (.some 16), .none, (.o (.s (.bin .add (.t 15) (.k (.int .i64 (1))))))⟩, ⟨2, (.some 5), .none,
    (.o (.s (.mv (.t 16))))⟩])))
theorem F13l0w : F13l0.wf = true := by kernel_rfl
def F13s : S2 :=
  (.seq (.ops 1 [⟨0, (.some 4), .none, (.o (.s (.mv (.k (.bool .false)))))⟩]) (.seq (.seq (.ops 5 [⟨0, (.some 6), .none, (.o (.s (.mv (.t 0))))⟩, ⟨1, (.some 7), .none,
    (.o (.s (.len (.t 6))))⟩, ⟨2, (.some 8), .none, (.o (.s (.mv (.t 1))))⟩, ⟨3, (.some 9), .none, (.o (.s (.len (.t 8))))⟩, ⟨4, (.some 10), .none,
    (.o (.s (.bin .neq (.t 7) (.t 9))))⟩]) (.cond (.t 10) (.seq (.ops 1 [⟨0, (.some 4), .none, (.o (.s (.mv (.k (.bool .false)))))⟩]) .ret) .skip))
    (.seq (.seq (.ops 1 [⟨0, (.some 5), .none, (.o (.s (.mv (.k (.int .i64 (0))))))⟩]) (.block 0 (.loop F13l0))) (.seq (.ops 1 [⟨0, (.some 4), .none,
    (.o (.s (.mv (.k (.bool .true)))))⟩]) .ret))))
noncomputable def F13b : Go.Code := Go.Proofs.Try.f13.body.getD .skip
theorem F13c : comp C [] F13b = some F13s.er := by kernel_rfl
theorem F13w : F13s.wf = true := by kernel_rfl
theorem F13d : Go.Proofs.Try.f13.body = some F13b := by kernel_rfl
@[simp] def F13q : List RV2 := [(.o (.tmp 4))]
theorem F13r : compRVs C Go.Proofs.Try.f13.results.toList = some (F13q.map RV2.er) := by kernel_rfl
theorem F13e : Enters Go.Proofs.Try.prog 13 := enters_of Go.Proofs.Try.func13 (by kernel_rfl) (by kernel_rfl)

/-- scarf/myers.Of --  -/
def F14s : S2 :=
  (.seq (.ops 2 [⟨0, (.some 4), .none, (.o (.s (.mv (.k .nils))))⟩, ⟨1, (.some 5), .none, (.o (.s (.mv (.k (.int .i64 (0))))))⟩]) (.seq (.seq (.ops 8 [⟨0, (.some 7), .none,
    (.o (.s (.mv (.t 0))))⟩, ⟨1, (.some 8), .none, (.o (.s (.len (.t 7))))⟩, ⟨2, (.some 9), .none, (.o (.s (.bin .gtr (.t 8) (.k (.int .i64 (20000))))))⟩, ⟨3, (.some 10),
    .none, (.o (.s (.mv (.t 9))))⟩, ⟨4, (.some 11), (.some (10, .false)), (.o (.s (.mv (.t 1))))⟩, ⟨5, (.some 12), (.some (10, .false)), (.o (.s (.len (.t 11))))⟩, ⟨6,
    (.some 13), (.some (10, .false)), (.o (.s (.bin .gtr (.t 12) (.k (.int .i64 (20000))))))⟩, ⟨7, (.some 14), .none, (.o (.s (.pick (.t 10) (.k (.bool .true))
    (.t 13))))⟩]) (.cond (.t 14) (.seq (.ops 2 [⟨0, (.some 4), .none, (.o (.s (.mv (.k .nils))))⟩, ⟨1, (.some 5), .none, (.o (.s (.mv (.k (.int .i64 (2))))))⟩]) .ret)
    .skip)) (.seq (.ops 1 [⟨0, (.some 6), .none, (.o (.s (.alloc 55 [.nils])))⟩]) (.seq (.ops 3 [⟨0, (.some 15), .none, (.o (.s (.mv (.t 0))))⟩, ⟨1, (.some 16), .none,
    (.o (.s (.mv (.t 1))))⟩, ⟨2, (.some 17), .none, (.o (.call 21 [(.t 6), (.t 15), (.t 16), (.k (.int .i64 (0))), (.k (.int .i64 (0)))]))⟩]) (.seq (.ops 4 [⟨0,
    (.some 18), .none, (.o (.s (.fa 0 (.t 6))))⟩, ⟨1, (.some 19), .none, (.o (.s (.load .none (.t 18))))⟩, ⟨2, (.some 4), .none, (.o (.s (.mv (.t 19))))⟩, ⟨3, (.some 5),
    .none, (.o (.s (.mv (.k (.int .i64 (0))))))⟩]) .ret)))))
noncomputable def F14b : Go.Code := Go.Proofs.Try.f14.body.getD .skip
theorem F14c : comp C [] F14b = some F14s.er := by kernel_rfl
theorem F14w : F14s.wf = true := by kernel_rfl
theorem F14d : Go.Proofs.Try.f14.body = some F14b := by kernel_rfl
@[simp] def F14q : List RV2 := [(.o (.tmp 4)), (.o (.tmp 5))]
theorem F14r : compRVs C Go.Proofs.Try.f14.results.toList = some (F14q.map RV2.er) := by kernel_rfl
theorem F14e : Enters Go.Proofs.Try.prog 14 := enters_of Go.Proofs.Try.func14 (by kernel_rfl) (by kernel_rfl)

/-- scarf/myers.Right -- 0: box t7; 1: box t9 -/
def F15l0 : S2 :=
  (.seq (.ops 1 [⟨0, (.some 14), .none, (.o (.s (.bin .lss (.t 13) (.t 12))))⟩]) (.seq (.cond (.t 14) .skip (.exit 0)) (.seq (.block 1 (.seq (.ops 4 [⟨0, (.some 15), .none,
    (.o (.s (.ia 2 (.t 11) (.t 13))))⟩, ⟨1, (.some 16), .none, (.o (.s (.load (.some 2) (.t 15))))⟩, ⟨2, (.some 9), .none, (.lalloc 1 31 [(.int .i64 (0)),
    (.int .i64 (0))])⟩, ⟨3, .none, .none, (.lstore 1 2 (.t 9) (.t 16))⟩]) (.seq (.seq (.dops 39 [(⟨0, (.some 17), .none, (.o (.s (.iaa 2 1 (.t 9) (.k (.int .i64 (0))))))⟩,
    (.mk 0 [])), (⟨2, (.some 19), .none, (.o (.s (.iaa 2 1 (.t 7) (.k (.int .i64 (0))))))⟩, (.mk 0 [])), (⟨1, (.some 18), .none, (.lload 1 .none (.t 17))⟩, (.mk 1 [])),
    (⟨3, (.some 20), .none, (.lload 0 .none (.t 19))⟩, (.mk 1 [])), (⟨4, (.some 21), .none, (.o (.s (.bin .leq (.t 18) (.t 20))))⟩, (.mk 0 [])), (⟨5, (.some 22), .none,
    (.o (.s (.mv (.t 21))))⟩, (.mk 0 [])), (⟨6, (.some 23), (.some (22, .false)), (.o (.s (.iaa 2 1 (.t 9) (.k (.int .i64 (1))))))⟩, (.mk 0 [])), (⟨8, (.some 25),
    (.some (22, .false)), (.o (.s (.iaa 2 1 (.t 7) (.k (.int .i64 (1))))))⟩, (.mk 0 [])), (⟨7, (.some 24), (.some (22, .false)), (.lload 1 .none (.t 23))⟩, (.mk 1 [])),
    (⟨9, (.some 26), (.some (22, .false)), (.lload 0 .none (.t 25))⟩, (.mk 1 [])), (⟨10, (.some 27), (.some (22, .false)), (.o (.s (.bin .leq (.t 24) (.t 26))))⟩,
    (.mk 0 [])), (⟨11, (.some 28), .none, (.o (.s (.pick (.t 22) (.k (.bool .true)) (.t 27))))⟩, (.mk 0 [])), (⟨12, (.some 29), .none, (.o (.s (.mv (.t 28))))⟩,
    (.mk 0 [])), (⟨13, (.some 30), (.some (29, .false)), (.o (.s (.iaa 2 1 (.t 9) (.k (.int .i64 (0))))))⟩, (.mk 0 [])), (⟨15, (.some 32), (.some (29, .false)),
    (.o (.s (.mv (.t 0))))⟩, (.mk 0 [])), (⟨16, (.some 33), (.some (29, .false)), (.o (.s (.len (.t 32))))⟩, (.mk 0 [])), (⟨14, (.some 31), (.some (29, .false)),
    (.lload 1 .none (.t 30))⟩, (.mk 1 [])), (⟨17, (.some 34), (.some (29, .false)), (.o (.s (.bin .geq (.t 31) (.t 33))))⟩, (.mk 0 [])), (⟨18, (.some 35), .none,
    (.o (.s (.pick (.t 29) (.k (.bool .true)) (.t 34))))⟩, (.mk 0 [])), (⟨19, (.some 36), .none, (.o (.s (.mv (.t 35))))⟩, (.mk 0 [])), (⟨20, (.some 37), (.some (36,
    .false)), (.o (.s (.iaa 2 1 (.t 9) (.k (.int .i64 (1))))))⟩, (.mk 0 [])), (⟨22, (.some 39), (.some (36, .false)), (.o (.s (.mv (.t 1))))⟩, (.mk 0 [])), (⟨23,
    (.some 40), (.some (36, .false)), (.o (.s (.len (.t 39))))⟩, (.mk 0 [])), (⟨21, (.some 38), (.some (36, .false)), (.lload 1 .none (.t 37))⟩, (.mk 1 [])), (⟨24,
    (.some 41), (.some (36, .false)), (.o (.s (.bin .geq (.t 38) (.t 40))))⟩, (.mk 0 [])), (⟨25, (.some 42), .none, (.o (.s (.pick (.t 36) (.k (.bool .true)) (.t 41))))⟩,
    (.mk 0 [])), (⟨26, (.some 43), .none, (.o (.s (.mv (.t 42))))⟩, (.mk 0 [])), (⟨27, (.some 44), (.some (43, .false)), (.o (.s (.mv (.t 0))))⟩, (.mk 0 [])), (⟨28,
    (.some 45), (.some (43, .false)), (.o (.s (.iaa 2 1 (.t 9) (.k (.int .i64 (0))))))⟩, (.mk 0 [])), (⟨32, (.some 49), (.some (43, .false)), (.o (.s (.mv (.t 1))))⟩,
    (.mk 0 [])), (⟨33, (.some 50), (.some (43, .false)), (.o (.s (.iaa 2 1 (.t 9) (.k (.int .i64 (1))))))⟩, (.mk 0 [])), (⟨29, (.some 46), (.some (43, .false)),
    (.lload 1 .none (.t 45))⟩, (.mk 1 [])), (⟨30, (.some 47), (.some (43, .false)), (.o (.s (.ia 1 (.t 44) (.t 46))))⟩, (.mk 1 [])), (⟨31, (.some 48), (.some (43,
    .false)), (.o (.s (.load .none (.t 47))))⟩, (.mk 1 [])), (⟨34, (.some 51), (.some (43, .false)), (.lload 1 .none (.t 50))⟩, (.mk 1 [])), (⟨35, (.some 52), (.some (43,
    .false)), (.o (.s (.ia 1 (.t 49) (.t 51))))⟩, (.mk 1 [])), (⟨36, (.some 53), (.some (43, .false)), (.o (.s (.load .none (.t 52))))⟩, (.mk 1 [])), (⟨37, (.some 54),
    (.some (43, .false)), (.o (.s (.bin .neq (.t 48) (.t 53))))⟩, (.mk 0 [])), (⟨38, (.some 55), .none, (.o (.s (.pick (.t 43) (.k (.bool .true)) (.t 54))))⟩,
    (.mk 0 []))]) (.cond (.t 55) (.seq (.ops 1 [⟨0, (.some 6), .none, (.o (.s (.mv (.k (.bool .false)))))⟩]) .ret) .skip)) (.ops 2 [⟨0, (.some 56), .none,
    (.lload 1 (.some 2) (.t 9))⟩, ⟨1, .none, .none, (.lstore 0 2 (.t 7) (.t 56))⟩])))) (.ops 2 [⟨0, (.some 57), .none, (.o (.s (.bin .add (.t 13) (.k (.int .i64 (1))))))⟩,
    ⟨1, (.some 13), .none, (.o (.s (.mv (.t 57))))⟩]))))
theorem F15l0w : F15l0.wf = true := by kernel_rfl
def F15s : S2 :=
  (.seq (.ops 1 [⟨0, (.some 6), .none, (.o (.s (.mv (.k (.bool .false)))))⟩]) (.seq (.ops 3 [⟨0, (.some 10), .none, (.o (.s (.build [(.int .i64 (0)), (.int .i64 (0))] [(0,
    (1, (.k (.int .i64 (-1))))), (1, (1, (.k (.int .i64 (-1)))))])))⟩, ⟨1, (.some 7), .none, (.lalloc 0 31 [(.int .i64 (0)), (.int .i64 (0))])⟩, ⟨2, .none, .none,
    (.lstore 0 2 (.t 7) (.t 10))⟩]) (.seq (.seq (.ops 3 [⟨0, (.some 11), .none, (.o (.s (.mv (.t 2))))⟩, ⟨1, (.some 12), .none, (.o (.s (.len (.t 11))))⟩, ⟨2, (.some 13),
    .none, (.o (.s (.mv (.k (.int .i64 (0))))))⟩]) (.block 0 (.loop F15l0))) (.seq (.ops 1 [⟨0, (.some 6), .none, (.o (.s (.mv (.k (.bool .true)))))⟩]) .ret))))
noncomputable def F15b : Go.Code := Go.Proofs.Try.f15.body.getD .skip
theorem F15c : comp C [] F15b = some F15s.er := by kernel_rfl
theorem F15w : F15s.wf = true := by kernel_rfl
theorem F15d : Go.Proofs.Try.f15.body = some F15b := by kernel_rfl
@[simp] def F15q : List RV2 := [(.o (.tmp 6))]
theorem F15r : compRVs C Go.Proofs.Try.f15.results.toList = some (F15q.map RV2.er) := by kernel_rfl
theorem F15e : Enters Go.Proofs.Try.prog 15 := enters_of Go.Proofs.Try.func15 (by kernel_rfl) (by kernel_rfl)

/-- scarf/chunk.Of$1 -- 0: box t11 -/
def F16s : S2 :=
  (.seq (.seq (.ops 15 [⟨0, (.some 12), .none, (.o (.s (.iaa 3 1 (.t 3) (.k (.int .i64 (0))))))⟩, ⟨1, (.some 13), .none, (.o (.s (.load .none (.t 12))))⟩, ⟨2, (.some 14),
    .none, (.o (.s (.mv (.t 0))))⟩, ⟨3, (.some 15), .none, (.o (.s (.build [(.int .i64 (0)), (.int .i64 (0))] [(0, (1, (.t 13))), (1, (1, (.t 14)))])))⟩, ⟨4, (.some 16),
    .none, (.o (.s (.iaa 3 1 (.t 3) (.k (.int .i64 (1))))))⟩, ⟨5, (.some 17), .none, (.o (.s (.load .none (.t 16))))⟩, ⟨6, (.some 18), .none, (.o (.s (.mv (.t 1))))⟩, ⟨7,
    (.some 19), .none, (.o (.s (.build [(.int .i64 (0)), (.int .i64 (0))] [(0, (1, (.t 17))), (1, (1, (.t 18)))])))⟩, ⟨8, (.some 20), .none, (.o (.s (.iaa 3 1 (.t 3)
    (.k (.int .i64 (2))))))⟩, ⟨9, (.some 21), .none, (.o (.s (.load .none (.t 20))))⟩, ⟨10, (.some 22), .none, (.o (.s (.mv (.t 2))))⟩, ⟨11, (.some 23), .none,
    (.o (.s (.build [(.int .i64 (0)), (.int .i64 (0))] [(0, (1, (.t 21))), (1, (1, (.t 22)))])))⟩, ⟨12, (.some 24), .none, (.o (.s (.build [(.int .i64 (0)),
    (.int .i64 (0)), (.int .i64 (0)), (.int .i64 (0)), (.int .i64 (0)), (.int .i64 (0)), (.int .i64 (0))] [(1, (2, (.t 15))), (3, (2, (.t 19))), (5, (2, (.t 23)))])))⟩,
    ⟨13, (.some 11), .none, (.lalloc 0 33 [(.int .i64 (0)), (.int .i64 (0)), (.int .i64 (0)), (.int .i64 (0)), (.int .i64 (0)), (.int .i64 (0)), (.int .i64 (0))])⟩, ⟨14,
    .none, .none, (.lstore 0 7 (.t 11) (.t 24))⟩]) (.seq (.ops 12 [⟨0, (.some 25), .none, (.lload 0 (.some 7) (.t 11))⟩, ⟨1, (.some 26), .none, (.o (.s (.mv (.t 0))))⟩,
    ⟨2, (.some 27), .none, (.o (.s (.mv (.t 0))))⟩, ⟨3, (.some 28), .none, (.o (.s (.build [(.int .i64 (0)), (.int .i64 (0))] [(0, (1, (.t 26))), (1, (1, (.t 27)))])))⟩,
    ⟨4, (.some 29), .none, (.o (.s (.mv (.t 1))))⟩, ⟨5, (.some 30), .none, (.o (.s (.mv (.t 1))))⟩, ⟨6, (.some 31), .none, (.o (.s (.build [(.int .i64 (0)),
    (.int .i64 (0))] [(0, (1, (.t 29))), (1, (1, (.t 30)))])))⟩, ⟨7, (.some 32), .none, (.o (.s (.mv (.t 2))))⟩, ⟨8, (.some 33), .none, (.o (.s (.mv (.t 2))))⟩, ⟨9,
    (.some 34), .none, (.o (.s (.build [(.int .i64 (0)), (.int .i64 (0))] [(0, (1, (.t 32))), (1, (1, (.t 33)))])))⟩, ⟨10, (.some 35), .none,
    (.o (.s (.build [(.int .i64 (0)), (.int .i64 (0)), (.int .i64 (0)), (.int .i64 (0)), (.int .i64 (0)), (.int .i64 (0)), (.int .i64 (0))] [(1, (2, (.t 28))), (3, (2,
    (.t 31))), (5, (2, (.t 34)))])))⟩, ⟨11, (.some 36), .none, (.o (.s (.eqs (.agg [.int, .int, .int, .int, .int, .int, .int]) .true (.t 25) (.t 35))))⟩]) (.cond (.t 36)
    (.dops 9 [(⟨0, (.some 37), .none, (.o (.s (.load .none (.t 4))))⟩, (.mk 1 [])), (⟨1, (.some 38), .none, (.o (.s (.load .none (.t 5))))⟩, (.mk 1 [])), (⟨2, (.some 39),
    .none, (.o (.s (.load .none (.t 6))))⟩, (.mk 1 [])), (⟨3, (.some 40), .none, (.o (.s (.load .none (.t 7))))⟩, (.mk 1 [])), (⟨4, (.some 41), .none, (.lload 0 (.some 7)
    (.t 11))⟩, (.mk 1 [])), (⟨5, (.some 42), .none, (.o (.call 17 [(.t 38), (.t 39), (.t 40), (.t 41)]))⟩, (.mk 0 [])), (⟨6, (.some 43), .none,
    (.lbsl 1 33 7 1 [(.int .i64 (0)), (.int .i64 (0)), (.int .i64 (0)), (.int .i64 (0)), (.int .i64 (0)), (.int .i64 (0)), (.int .i64 (0))] [(0, (.t 42))] .false)⟩,
    (.mk 0 [6])), (⟨7, (.some 44), .none, (.o (.s (.app 33 7 56 (.t 37) (.t 43))))⟩, (.mk 2 [7])), (⟨8, .none, .none, (.o (.s (.store 1 (.t 4) (.t 44))))⟩, (.mk 2 []))])
    .skip))) (.ops 5 [⟨0, (.some 45), .none, (.o (.s (.mv (.t 0))))⟩, ⟨1, (.some 46), .none, (.o (.s (.mv (.t 1))))⟩, ⟨2, (.some 47), .none, (.o (.s (.mv (.t 2))))⟩, ⟨3,
    (.some 48), .none, (.o (.s (.build [(.int .i64 (0)), (.int .i64 (0)), (.int .i64 (0))] [(0, (1, (.t 45))), (1, (1, (.t 46))), (2, (1, (.t 47)))])))⟩, ⟨4, .none, .none,
    (.o (.s (.store 3 (.t 3) (.t 48))))⟩]))
noncomputable def F16b : Go.Code := Go.Proofs.Try.f16.body.getD .skip
theorem F16c : comp C [] F16b = some F16s.er := by kernel_rfl
theorem F16w : F16s.wf = true := by kernel_rfl
theorem F16d : Go.Proofs.Try.f16.body = some F16b := by kernel_rfl
@[simp] def F16q : List RV2 := []
theorem F16r : compRVs C Go.Proofs.Try.f16.results.toList = some (F16q.map RV2.er) := by kernel_rfl
theorem F16e : Enters Go.Proofs.Try.prog 16 := enters_of Go.Proofs.Try.func16 (by kernel_rfl) (by kernel_rfl)

/-- scarf/chunk.sorted -- 0: box t7; 1: box t8 -/
def F17s : S2 :=
  (.seq (.ops 2 [⟨0, (.some 7), .none, (.lbox 0 33 (.t 3))⟩, ⟨1, (.some 8), .none, (.lalloc 1 33 [(.int .i64 (0)), (.int .i64 (0)), (.int .i64 (0)), (.int .i64 (0)),
    (.int .i64 (0)), (.int .i64 (0)), (.int .i64 (0))])⟩]) (.seq (.dops 27 [(⟨0, (.some 12), .none, (.o (.s (.mv (.t 0))))⟩, (.mk 0 [])), (⟨1, (.some 13), .none,
    (.o (.s (.fa 1 (.t 7))))⟩, (.mk 0 [])), (⟨2, (.some 14), .none, (.o (.s (.iaa 2 1 (.t 13) (.k (.int .i64 (0))))))⟩, (.mk 0 [])), (⟨4, (.some 16), .none,
    (.o (.s (.fa 1 (.t 7))))⟩, (.mk 0 [])), (⟨5, (.some 17), .none, (.o (.s (.iaa 2 1 (.t 16) (.k (.int .i64 (1))))))⟩, (.mk 0 [])), (⟨8, (.some 20), .none,
    (.o (.s (.mv (.t 1))))⟩, (.mk 0 [])), (⟨9, (.some 21), .none, (.o (.s (.fa 3 (.t 7))))⟩, (.mk 0 [])), (⟨10, (.some 22), .none, (.o (.s (.iaa 2 1 (.t 21)
    (.k (.int .i64 (0))))))⟩, (.mk 0 [])), (⟨12, (.some 24), .none, (.o (.s (.fa 3 (.t 7))))⟩, (.mk 0 [])), (⟨13, (.some 25), .none, (.o (.s (.iaa 2 1 (.t 24)
    (.k (.int .i64 (1))))))⟩, (.mk 0 [])), (⟨16, (.some 28), .none, (.o (.s (.mv (.t 2))))⟩, (.mk 0 [])), (⟨17, (.some 29), .none, (.o (.s (.fa 5 (.t 7))))⟩, (.mk 0 [])),
    (⟨18, (.some 30), .none, (.o (.s (.iaa 2 1 (.t 29) (.k (.int .i64 (0))))))⟩, (.mk 0 [])), (⟨20, (.some 32), .none, (.o (.s (.fa 5 (.t 7))))⟩, (.mk 0 [])), (⟨21,
    (.some 33), .none, (.o (.s (.iaa 2 1 (.t 32) (.k (.int .i64 (1))))))⟩, (.mk 0 [])), (⟨3, (.some 15), .none, (.lload 0 .none (.t 14))⟩, (.mk 1 [])), (⟨6, (.some 18),
    .none, (.lload 0 .none (.t 17))⟩, (.mk 1 [])), (⟨7, (.some 19), .none, (.o (.s (.sub 1 (.t 12) (.some (.t 15)) (.some (.t 18)))))⟩, (.mk 1 [])), (⟨24, (.some 9),
    .none, (.o (.s (.mv (.t 19))))⟩, (.mk 0 [])), (⟨11, (.some 23), .none, (.lload 0 .none (.t 22))⟩, (.mk 1 [])), (⟨14, (.some 26), .none, (.lload 0 .none (.t 25))⟩,
    (.mk 1 [])), (⟨15, (.some 27), .none, (.o (.s (.sub 1 (.t 20) (.some (.t 23)) (.some (.t 26)))))⟩, (.mk 1 [])), (⟨25, (.some 10), .none, (.o (.s (.mv (.t 27))))⟩,
    (.mk 0 [])), (⟨19, (.some 31), .none, (.lload 0 .none (.t 30))⟩, (.mk 1 [])), (⟨22, (.some 34), .none, (.lload 0 .none (.t 33))⟩, (.mk 1 [])), (⟨23, (.some 35), .none,
    (.o (.s (.sub 1 (.t 28) (.some (.t 31)) (.some (.t 34)))))⟩, (.mk 1 [])), (⟨26, (.some 11), .none, (.o (.s (.mv (.t 35))))⟩, (.mk 0 []))])
    (.seq (.block 0 (.seq (.ops 4 [⟨0, (.some 38), .none, (.o (.s (.mv (.t 10))))⟩, ⟨1, (.some 39), .none, (.o (.s (.mv (.t 11))))⟩, ⟨2, (.some 40), .none,
    (.o (.call 22 [(.t 38), (.t 39)]))⟩, ⟨3, (.some 37), .none, (.o (.s (.mv (.t 40))))⟩]) (.cond (.t 37) (.ops 2 [⟨0, (.some 41), .none, (.o (.s (.fa 0 (.t 7))))⟩, ⟨1,
    .none, .none, (.lstore 0 1 (.t 41) (.k (.int .i64 (4))))⟩]) (.seq (.ops 4 [⟨0, (.some 43), .none, (.o (.s (.mv (.t 9))))⟩, ⟨1, (.some 44), .none,
    (.o (.s (.mv (.t 10))))⟩, ⟨2, (.some 45), .none, (.o (.call 22 [(.t 43), (.t 44)]))⟩, ⟨3, (.some 42), .none, (.o (.s (.mv (.t 45))))⟩]) (.cond (.t 42) (.ops 2 [⟨0,
    (.some 46), .none, (.o (.s (.fa 0 (.t 7))))⟩, ⟨1, .none, .none, (.lstore 0 1 (.t 46) (.k (.int .i64 (3))))⟩]) (.seq (.ops 4 [⟨0, (.some 48), .none,
    (.o (.s (.mv (.t 9))))⟩, ⟨1, (.some 49), .none, (.o (.s (.mv (.t 11))))⟩, ⟨2, (.some 50), .none, (.o (.call 22 [(.t 48), (.t 49)]))⟩, ⟨3, (.some 47), .none,
    (.o (.s (.mv (.t 50))))⟩]) (.cond (.t 47) (.ops 2 [⟨0, (.some 51), .none, (.o (.s (.fa 0 (.t 7))))⟩, ⟨1, .none, .none, (.lstore 0 1 (.t 51) (.k (.int .i64 (2))))⟩])
    (.ops 2 [⟨0, (.some 36), .none, (.o (.s (.fa 0 (.t 7))))⟩, ⟨1, .none, .none, (.lstore 0 1 (.t 36) (.k (.int .i64 (5))))⟩])))))))) (.seq (.ops 2 [⟨0, (.some 52), .none,
    (.lload 0 (.some 7) (.t 7))⟩, ⟨1, .none, .none, (.lstore 1 7 (.t 8) (.t 52))⟩]) .ret))))
noncomputable def F17b : Go.Code := Go.Proofs.Try.f17.body.getD .skip
theorem F17c : comp C [] F17b = some F17s.er := by kernel_rfl
theorem F17w : F17s.wf = true := by kernel_rfl
theorem F17d : Go.Proofs.Try.f17.body = some F17b := by kernel_rfl
@[simp] def F17q : List RV2 := [(.lcell 1 8 (.some 7))]
theorem F17r : compRVs C Go.Proofs.Try.f17.results.toList = some (F17q.map RV2.er) := by kernel_rfl
theorem F17e : Enters Go.Proofs.Try.prog 17 := enters_of Go.Proofs.Try.func17 (by kernel_rfl) (by kernel_rfl)

/-- scarf/scarfref16.Right --  -/
def F18l0 : S2 :=
  (.seq (.seq (.ops 4 [⟨0, (.some 10), .none, (.o (.s (.mv (.t 7))))⟩, ⟨1, (.some 11), .none, (.o (.s (.mv (.t 2))))⟩, ⟨2, (.some 12), .none, (.o (.s (.len (.t 11))))⟩, ⟨3,
    (.some 13), .none, (.o (.s (.bin .lss (.t 10) (.t 12))))⟩]) (.cond (.t 13) .skip (.exit 0))) (.seq (.block 1 (.seq (.dops 12 [(⟨0, (.some 16), .none,
    (.o (.s (.mv (.t 2))))⟩, (.mk 0 [])), (⟨1, (.some 17), .none, (.o (.s (.mv (.t 7))))⟩, (.mk 0 [])), (⟨5, (.some 21), .none, (.o (.s (.mv (.t 2))))⟩, (.mk 0 [])), (⟨6,
    (.some 22), .none, (.o (.s (.mv (.t 7))))⟩, (.mk 0 [])), (⟨2, (.some 18), .none, (.o (.s (.ia 2 (.t 16) (.t 17))))⟩, (.mk 1 [])), (⟨3, (.some 19), .none,
    (.o (.s (.iaa 2 1 (.t 18) (.k (.int .i64 (0))))))⟩, (.mk 0 [])), (⟨4, (.some 20), .none, (.o (.s (.load .none (.t 19))))⟩, (.mk 1 [])), (⟨10, (.some 8), .none,
    (.o (.s (.mv (.t 20))))⟩, (.mk 0 [])), (⟨7, (.some 23), .none, (.o (.s (.ia 2 (.t 21) (.t 22))))⟩, (.mk 1 [])), (⟨8, (.some 24), .none, (.o (.s (.iaa 2 1 (.t 23)
    (.k (.int .i64 (1))))))⟩, (.mk 0 [])), (⟨9, (.some 25), .none, (.o (.s (.load .none (.t 24))))⟩, (.mk 1 [])), (⟨11, (.some 9), .none, (.o (.s (.mv (.t 25))))⟩,
    (.mk 0 []))]) (.seq (.seq (.dops 29 [(⟨0, (.some 26), .none, (.o (.s (.mv (.t 8))))⟩, (.mk 0 [])), (⟨1, (.some 27), .none, (.o (.s (.bin .lss (.t 26)
    (.k (.int .i64 (0))))))⟩, (.mk 0 [])), (⟨2, (.some 28), .none, (.o (.s (.mv (.t 27))))⟩, (.mk 0 [])), (⟨3, (.some 29), (.some (28, .false)), (.o (.s (.mv (.t 8))))⟩,
    (.mk 0 [])), (⟨4, (.some 30), (.some (28, .false)), (.o (.s (.mv (.t 0))))⟩, (.mk 0 [])), (⟨5, (.some 31), (.some (28, .false)), (.o (.s (.len (.t 30))))⟩,
    (.mk 0 [])), (⟨6, (.some 32), (.some (28, .false)), (.o (.s (.bin .geq (.t 29) (.t 31))))⟩, (.mk 0 [])), (⟨7, (.some 33), .none, (.o (.s (.pick (.t 28)
    (.k (.bool .true)) (.t 32))))⟩, (.mk 0 [])), (⟨8, (.some 34), .none, (.o (.s (.mv (.t 33))))⟩, (.mk 0 [])), (⟨9, (.some 35), (.some (34, .false)),
    (.o (.s (.mv (.t 9))))⟩, (.mk 0 [])), (⟨10, (.some 36), (.some (34, .false)), (.o (.s (.bin .lss (.t 35) (.k (.int .i64 (0))))))⟩, (.mk 0 [])), (⟨11, (.some 37),
    .none, (.o (.s (.pick (.t 34) (.k (.bool .true)) (.t 36))))⟩, (.mk 0 [])), (⟨12, (.some 38), .none, (.o (.s (.mv (.t 37))))⟩, (.mk 0 [])), (⟨13, (.some 39),
    (.some (38, .false)), (.o (.s (.mv (.t 9))))⟩, (.mk 0 [])), (⟨14, (.some 40), (.some (38, .false)), (.o (.s (.mv (.t 1))))⟩, (.mk 0 [])), (⟨15, (.some 41), (.some (38,
    .false)), (.o (.s (.len (.t 40))))⟩, (.mk 0 [])), (⟨16, (.some 42), (.some (38, .false)), (.o (.s (.bin .geq (.t 39) (.t 41))))⟩, (.mk 0 [])), (⟨17, (.some 43), .none,
    (.o (.s (.pick (.t 38) (.k (.bool .true)) (.t 42))))⟩, (.mk 0 [])), (⟨18, (.some 44), .none, (.o (.s (.mv (.t 43))))⟩, (.mk 0 [])), (⟨19, (.some 45), (.some (44,
    .false)), (.o (.s (.mv (.t 0))))⟩, (.mk 0 [])), (⟨20, (.some 46), (.some (44, .false)), (.o (.s (.mv (.t 8))))⟩, (.mk 0 [])), (⟨23, (.some 49), (.some (44, .false)),
    (.o (.s (.mv (.t 1))))⟩, (.mk 0 [])), (⟨24, (.some 50), (.some (44, .false)), (.o (.s (.mv (.t 9))))⟩, (.mk 0 [])), (⟨21, (.some 47), (.some (44, .false)),
    (.o (.s (.ia 1 (.t 45) (.t 46))))⟩, (.mk 1 [])), (⟨22, (.some 48), (.some (44, .false)), (.o (.s (.load .none (.t 47))))⟩, (.mk 1 [])), (⟨25, (.some 51), (.some (44,
    .false)), (.o (.s (.ia 1 (.t 49) (.t 50))))⟩, (.mk 1 [])), (⟨26, (.some 52), (.some (44, .false)), (.o (.s (.load .none (.t 51))))⟩, (.mk 1 [])), (⟨27, (.some 53),
    (.some (44, .false)), (.o (.s (.bin .neq (.t 48) (.t 52))))⟩, (.mk 0 [])), (⟨28, (.some 54), .none, (.o (.s (.pick (.t 44) (.k (.bool .true)) (.t 53))))⟩,
    (.mk 0 []))]) (.cond (.t 54) (.seq (.ops 1 [⟨0, (.some 6), .none, (.o (.s (.mv (.k (.bool .false)))))⟩]) .ret) .skip)) (.seq (.ops 22 [⟨0, (.some 55), .none,
    (.o (.s (.mv (.t 7))))⟩, ⟨1, (.some 56), .none, (.o (.s (.bin .gtr (.t 55) (.k (.int .i64 (0))))))⟩, ⟨2, (.some 57), .none, (.o (.s (.mv (.t 56))))⟩, ⟨3, (.some 58),
    (.some (57, .true)), (.o (.s (.mv (.t 2))))⟩, ⟨4, (.some 59), (.some (57, .true)), (.o (.s (.mv (.t 7))))⟩, ⟨5, (.some 60), (.some (57, .true)),
    (.o (.s (.bin .sub (.t 59) (.k (.int .i64 (1))))))⟩, ⟨6, (.some 61), (.some (57, .true)), (.o (.s (.ia 2 (.t 58) (.t 60))))⟩, ⟨7, (.some 62), (.some (57, .true)),
    (.o (.s (.iaa 2 1 (.t 61) (.k (.int .i64 (0))))))⟩, ⟨8, (.some 63), (.some (57, .true)), (.o (.s (.load .none (.t 62))))⟩, ⟨9, (.some 64), (.some (57, .true)),
    (.o (.s (.mv (.t 8))))⟩, ⟨10, (.some 65), (.some (57, .true)), (.o (.s (.bin .geq (.t 63) (.t 64))))⟩, ⟨11, (.some 66), (.some (57, .true)), (.o (.s (.mv (.t 65))))⟩,
    ⟨12, (.some 67), (.some (66, .false)), (.o (.s (.mv (.t 2))))⟩, ⟨13, (.some 68), (.some (66, .false)), (.o (.s (.mv (.t 7))))⟩, ⟨14, (.some 69), (.some (66, .false)),
    (.o (.s (.bin .sub (.t 68) (.k (.int .i64 (1))))))⟩, ⟨15, (.some 70), (.some (66, .false)), (.o (.s (.ia 2 (.t 67) (.t 69))))⟩, ⟨16, (.some 71), (.some (66, .false)),
    (.o (.s (.iaa 2 1 (.t 70) (.k (.int .i64 (1))))))⟩, ⟨17, (.some 72), (.some (66, .false)), (.o (.s (.load .none (.t 71))))⟩, ⟨18, (.some 73), (.some (66, .false)),
    (.o (.s (.mv (.t 9))))⟩, ⟨19, (.some 74), (.some (66, .false)), (.o (.s (.bin .geq (.t 72) (.t 73))))⟩, ⟨20, (.some 75), (.some (57, .true)), (.o (.s (.pick (.t 66)
    (.k (.bool .true)) (.t 74))))⟩, ⟨21, (.some 76), .none, (.o (.s (.pick (.t 57) (.t 75) (.k (.bool .false)))))⟩]) (.cond (.t 76) (.seq (.ops 1 [⟨0, (.some 6), .none,
    (.o (.s (.mv (.k (.bool .false)))))⟩]) .ret) .skip))))) (.ops 3 [⟨0, (.some 14), .none, (.o (.s (.mv (.t 7))))⟩, ⟨1, (.some 15), .none, (.o (.s (.bin .add (.t 14)
    (.k (.int .i64 (1))))))⟩, ⟨2, (.some 7), .none, (.o (.s (.mv (.t 15))))⟩])))
theorem F18l0w : F18l0.wf = true := by kernel_rfl
def F18s : S2 :=
  (.seq (.ops 1 [⟨0, (.some 6), .none, (.o (.s (.mv (.k (.bool .false)))))⟩]) (.seq (.seq (.ops 1 [⟨0, (.some 7), .none, (.o (.s (.mv (.k (.int .i64 (0))))))⟩])
    (.block 0 (.loop F18l0))) (.seq (.ops 1 [⟨0, (.some 6), .none, (.o (.s (.mv (.k (.bool .true)))))⟩]) .ret)))
noncomputable def F18b : Go.Code := Go.Proofs.Try.f18.body.getD .skip
theorem F18c : comp C [] F18b = some F18s.er := by kernel_rfl
theorem F18w : F18s.wf = true := by kernel_rfl
theorem F18d : Go.Proofs.Try.f18.body = some F18b := by kernel_rfl
@[simp] def F18q : List RV2 := [(.o (.tmp 6))]
theorem F18r : compRVs C Go.Proofs.Try.f18.results.toList = some (F18q.map RV2.er) := by kernel_rfl
theorem F18e : Enters Go.Proofs.Try.prog 18 := enters_of Go.Proofs.Try.func18 (by kernel_rfl) (by kernel_rfl)

/-- scarf/scarfref17.to --  -/
def F19l0 : S2 :=
  (.seq (.seq (.ops 4 [⟨0, (.some 6), .none, (.o (.s (.mv (.t 5))))⟩, ⟨1, (.some 7), .none, (.o (.s (.mv (.t 0))))⟩, ⟨2, (.some 8), .none, (.o (.s (.len (.t 7))))⟩, ⟨3,
    (.some 9), .none, (.o (.s (.bin .lss (.t 6) (.t 8))))⟩]) (.cond (.t 9) .skip (.exit 0))) (.seq (.block 1 (.seq (.ops 7 [⟨0, (.some 12), .none, (.o (.s (.mv (.t 0))))⟩,
    ⟨1, (.some 13), .none, (.o (.s (.mv (.t 5))))⟩, ⟨2, (.some 14), .none, (.o (.s (.ia 2 (.t 12) (.t 13))))⟩, ⟨3, (.some 15), .none, (.o (.s (.iaa 2 1 (.t 14)
    (.k (.int .i64 (0))))))⟩, ⟨4, (.some 16), .none, (.o (.s (.load .none (.t 15))))⟩, ⟨5, (.some 17), .none, (.o (.s (.mv (.t 1))))⟩, ⟨6, (.some 18), .none,
    (.o (.s (.bin .eql (.t 16) (.t 17))))⟩]) (.cond (.t 18) (.seq (.ops 6 [⟨0, (.some 19), .none, (.o (.s (.mv (.t 0))))⟩, ⟨1, (.some 20), .none, (.o (.s (.mv (.t 5))))⟩,
    ⟨2, (.some 21), .none, (.o (.s (.ia 2 (.t 19) (.t 20))))⟩, ⟨3, (.some 22), .none, (.o (.s (.iaa 2 1 (.t 21) (.k (.int .i64 (1))))))⟩, ⟨4, (.some 23), .none,
    (.o (.s (.load .none (.t 22))))⟩, ⟨5, (.some 4), .none, (.o (.s (.mv (.t 23))))⟩]) .ret) .skip))) (.ops 3 [⟨0, (.some 10), .none, (.o (.s (.mv (.t 5))))⟩, ⟨1,
    (.some 11), .none, (.o (.s (.bin .add (.t 10) (.k (.int .i64 (1))))))⟩, ⟨2, (.some 5), .none, (.o (.s (.mv (.t 11))))⟩])))
theorem F19l0w : F19l0.wf = true := by kernel_rfl
def F19s : S2 :=
  (.seq (.ops 1 [⟨0, (.some 4), .none, (.o (.s (.mv (.k (.int .i64 (0))))))⟩]) (.seq (.seq (.ops 1 [⟨0, (.some 5), .none, (.o (.s (.mv (.k (.int .i64 (0))))))⟩])
    (.block 0 (.loop F19l0))) (.seq (.ops 1 [⟨0, (.some 4), .none, (.o (.s (.mv (.k (.int .i64 (-1))))))⟩]) .ret)))
noncomputable def F19b : Go.Code := Go.Proofs.Try.f19.body.getD .skip
theorem F19c : comp C [] F19b = some F19s.er := by kernel_rfl
theorem F19w : F19s.wf = true := by kernel_rfl
theorem F19d : Go.Proofs.Try.f19.body = some F19b := by kernel_rfl
@[simp] def F19q : List RV2 := [(.o (.tmp 4))]
theorem F19r : compRVs C Go.Proofs.Try.f19.results.toList = some (F19q.map RV2.er) := by kernel_rfl
theorem F19e : Enters Go.Proofs.Try.prog 19 := enters_of Go.Proofs.Try.func19 (by kernel_rfl) (by kernel_rfl)

/-- scarf/scarfref17.same -- 0: box t5; 1: box t7 -/
def F20l0 : S2 :=
  (.seq (.seq (.ops 7 [⟨0, (.some 21), .none, (.o (.s (.mv (.t 9))))⟩, ⟨1, (.some 22), .none, (.o (.s (.iaa 2 1 (.t 5) (.k (.int .i64 (1))))))⟩, ⟨2, (.some 23), .none,
    (.lload 0 .none (.t 22))⟩, ⟨3, (.some 24), .none, (.o (.s (.iaa 2 1 (.t 5) (.k (.int .i64 (0))))))⟩, ⟨4, (.some 25), .none, (.lload 0 .none (.t 24))⟩, ⟨5, (.some 26),
    .none, (.o (.s (.bin .sub (.t 23) (.t 25))))⟩, ⟨6, (.some 27), .none, (.o (.s (.bin .lss (.t 21) (.t 26))))⟩]) (.cond (.t 27) .skip (.exit 0)))
    (.seq (.block 1 (.seq (.dops 15 [(⟨0, (.some 30), .none, (.o (.s (.mv (.t 0))))⟩, (.mk 0 [])), (⟨1, (.some 31), .none, (.o (.s (.iaa 2 1 (.t 5)
    (.k (.int .i64 (0))))))⟩, (.mk 0 [])), (⟨3, (.some 33), .none, (.o (.s (.mv (.t 9))))⟩, (.mk 0 [])), (⟨7, (.some 37), .none, (.o (.s (.mv (.t 2))))⟩, (.mk 0 [])), (⟨8,
    (.some 38), .none, (.o (.s (.iaa 2 1 (.t 7) (.k (.int .i64 (0))))))⟩, (.mk 0 [])), (⟨10, (.some 40), .none, (.o (.s (.mv (.t 9))))⟩, (.mk 0 [])), (⟨2, (.some 32),
    .none, (.lload 0 .none (.t 31))⟩, (.mk 1 [])), (⟨4, (.some 34), .none, (.o (.s (.bin .add (.t 32) (.t 33))))⟩, (.mk 0 [])), (⟨5, (.some 35), .none,
    (.o (.s (.ia 1 (.t 30) (.t 34))))⟩, (.mk 1 [])), (⟨6, (.some 36), .none, (.o (.s (.load .none (.t 35))))⟩, (.mk 1 [])), (⟨9, (.some 39), .none,
    (.lload 1 .none (.t 38))⟩, (.mk 1 [])), (⟨11, (.some 41), .none, (.o (.s (.bin .add (.t 39) (.t 40))))⟩, (.mk 0 [])), (⟨12, (.some 42), .none, (.o (.s (.ia 1 (.t 37)
    (.t 41))))⟩, (.mk 1 [])), (⟨13, (.some 43), .none, (.o (.s (.load .none (.t 42))))⟩, (.mk 1 [])), (⟨14, (.some 44), .none, (.o (.s (.bin .neq (.t 36) (.t 43))))⟩,
    (.mk 0 []))]) (.cond (.t 44) (.seq (.ops 1 [⟨0, (.some 8), .none, (.o (.s (.mv (.k (.bool .false)))))⟩]) .ret) .skip))) (.ops 3 [⟨0, (.some 28), .none,
    (.o (.s (.mv (.t 9))))⟩, ⟨1, (.some 29), .none, (.o (.s (.bin .add (.t 28) (.k (.int .i64 (1))))))⟩, ⟨2, (.some 9), .none, (.o (.s (.mv (.t 29))))⟩])))
theorem F20l0w : F20l0.wf = true := by kernel_rfl
def F20s : S2 :=
  (.seq (.ops 3 [⟨0, (.some 5), .none, (.lbox 0 31 (.t 1))⟩, ⟨1, (.some 7), .none, (.lbox 1 31 (.t 3))⟩, ⟨2, (.some 8), .none, (.o (.s (.mv (.k (.bool .false)))))⟩])
    (.seq (.seq (.ops 11 [⟨0, (.some 10), .none, (.o (.s (.iaa 2 1 (.t 5) (.k (.int .i64 (1))))))⟩, ⟨1, (.some 11), .none, (.lload 0 .none (.t 10))⟩, ⟨2, (.some 12),
    .none, (.o (.s (.iaa 2 1 (.t 5) (.k (.int .i64 (0))))))⟩, ⟨3, (.some 13), .none, (.lload 0 .none (.t 12))⟩, ⟨4, (.some 14), .none, (.o (.s (.bin .sub (.t 11)
    (.t 13))))⟩, ⟨5, (.some 15), .none, (.o (.s (.iaa 2 1 (.t 7) (.k (.int .i64 (1))))))⟩, ⟨6, (.some 16), .none, (.lload 1 .none (.t 15))⟩, ⟨7, (.some 17), .none,
    (.o (.s (.iaa 2 1 (.t 7) (.k (.int .i64 (0))))))⟩, ⟨8, (.some 18), .none, (.lload 1 .none (.t 17))⟩, ⟨9, (.some 19), .none, (.o (.s (.bin .sub (.t 16) (.t 18))))⟩,
    ⟨10, (.some 20), .none, (.o (.s (.bin .neq (.t 14) (.t 19))))⟩]) (.cond (.t 20) (.seq (.ops 1 [⟨0, (.some 8), .none, (.o (.s (.mv (.k (.bool .false)))))⟩]) .ret)
    .skip)) (.seq (.seq (.ops 1 [⟨0, (.some 9), .none, (.o (.s (.mv (.k (.int .i64 (0))))))⟩]) (.block 0 (.loop F20l0))) (.seq (.ops 1 [⟨0, (.some 8), .none,
    (.o (.s (.mv (.k (.bool .true)))))⟩]) .ret))))
noncomputable def F20b : Go.Code := Go.Proofs.Try.f20.body.getD .skip
theorem F20c : comp C [] F20b = some F20s.er := by kernel_rfl
theorem F20w : F20s.wf = true := by kernel_rfl
theorem F20d : Go.Proofs.Try.f20.body = some F20b := by kernel_rfl
@[simp] def F20q : List RV2 := [(.o (.tmp 8))]
theorem F20r : compRVs C Go.Proofs.Try.f20.results.toList = some (F20q.map RV2.er) := by kernel_rfl
theorem F20e : Enters Go.Proofs.Try.prog 20 := enters_of Go.Proofs.Try.func20 (by kernel_rfl) (by kernel_rfl)

/-- (*scarf/myers.row).halves --  -/
def F21l0 : S2 :=
  (.seq (.ops 1 [⟨0, (.some 215), .none, (.o (.s (.bin .lss (.t 214) (.t 213))))⟩]) (.seq (.cond (.t 215) .skip (.exit 7)) (.seq (.block 8 (.seq (.ops 2 [⟨0, (.some 216),
    .none, (.o (.s (.mv (.t 214))))⟩, ⟨1, (.some 21), .none, (.o (.s (.mv (.t 216))))⟩]) (.ops 23 [⟨0, (.some 217), .none, (.o (.s (.mv (.t 0))))⟩, ⟨1, (.some 218), .none,
    (.o (.s (.mv (.t 0))))⟩, ⟨2, (.some 219), .none, (.o (.s (.nilck (.t 218))))⟩, ⟨3, (.some 220), .none, (.o (.s (.fa 0 (.t 219))))⟩, ⟨4, (.some 221), .none,
    (.o (.s (.load .none (.t 220))))⟩, ⟨5, (.some 222), .none, (.o (.s (.mv (.t 3))))⟩, ⟨6, (.some 223), .none, (.o (.s (.mv (.t 11))))⟩, ⟨7, (.some 224), .none,
    (.o (.s (.len (.t 223))))⟩, ⟨8, (.some 225), .none, (.o (.s (.bin .add (.t 222) (.t 224))))⟩, ⟨9, (.some 226), .none, (.o (.s (.mv (.t 21))))⟩, ⟨10, (.some 227),
    .none, (.o (.s (.bin .add (.t 225) (.t 226))))⟩, ⟨11, (.some 228), .none, (.o (.s (.mv (.t 4))))⟩, ⟨12, (.some 229), .none, (.o (.s (.mv (.t 12))))⟩, ⟨13, (.some 230),
    .none, (.o (.s (.len (.t 229))))⟩, ⟨14, (.some 231), .none, (.o (.s (.bin .add (.t 228) (.t 230))))⟩, ⟨15, (.some 232), .none, (.o (.s (.mv (.t 21))))⟩, ⟨16,
    (.some 233), .none, (.o (.s (.bin .add (.t 231) (.t 232))))⟩, ⟨17, (.some 234), .none, (.o (.s (.build [(.int .i64 (0)), (.int .i64 (0))] [(0, (1, (.t 227))), (1, (1,
    (.t 233)))])))⟩, ⟨18, (.some 235), .none, (.lbsl 0 31 2 1 [(.int .i64 (0)), (.int .i64 (0))] [(0, (.t 234))] .false)⟩, ⟨19, (.some 236), .none,
    (.o (.s (.app 31 2 16 (.t 221) (.t 235))))⟩, ⟨20, (.some 237), .none, (.o (.s (.nilck (.t 217))))⟩, ⟨21, (.some 238), .none, (.o (.s (.fa 0 (.t 237))))⟩, ⟨22, .none,
    .none, (.o (.s (.store 1 (.t 238) (.t 236))))⟩]))) (.ops 2 [⟨0, (.some 239), .none, (.o (.s (.bin .add (.t 214) (.k (.int .i64 (1))))))⟩, ⟨1, (.some 214), .none,
    (.o (.s (.mv (.t 239))))⟩]))))
theorem F21l0w : F21l0.wf = true := by kernel_rfl
def F21l1 : S2 :=
  (.seq (.ops 1 [⟨0, (.some 126), .none, (.o (.s (.bin .lss (.t 125) (.t 124))))⟩]) (.seq (.cond (.t 126) .skip (.exit 5)) (.seq (.block 6 (.seq (.ops 2 [⟨0, (.some 127),
    .none, (.o (.s (.mv (.t 125))))⟩, ⟨1, (.some 20), .none, (.o (.s (.mv (.t 127))))⟩]) (.seq (.dops 25 [(⟨0, (.some 128), .none, (.o (.s (.mv (.t 15))))⟩, (.mk 0 [])),
    (⟨1, (.some 129), .none, (.o (.s (.mv (.t 20))))⟩, (.mk 0 [])), (⟨4, (.some 132), .none, (.o (.s (.mv (.t 18))))⟩, (.mk 0 [])), (⟨5, (.some 133), .none,
    (.o (.s (.mv (.t 12))))⟩, (.mk 0 [])), (⟨6, (.some 134), .none, (.o (.s (.len (.t 133))))⟩, (.mk 0 [])), (⟨7, (.some 135), .none, (.o (.s (.mv (.t 20))))⟩,
    (.mk 0 [])), (⟨8, (.some 136), .none, (.o (.s (.bin .sub (.t 134) (.t 135))))⟩, (.mk 0 [])), (⟨12, (.some 140), .none, (.o (.s (.mv (.t 15))))⟩, (.mk 0 [])), (⟨13,
    (.some 141), .none, (.o (.s (.mv (.t 19))))⟩, (.mk 0 [])), (⟨16, (.some 144), .none, (.o (.s (.mv (.t 18))))⟩, (.mk 0 [])), (⟨17, (.some 145), .none,
    (.o (.s (.mv (.t 12))))⟩, (.mk 0 [])), (⟨18, (.some 146), .none, (.o (.s (.len (.t 145))))⟩, (.mk 0 [])), (⟨19, (.some 147), .none, (.o (.s (.mv (.t 19))))⟩,
    (.mk 0 [])), (⟨20, (.some 148), .none, (.o (.s (.bin .sub (.t 146) (.t 147))))⟩, (.mk 0 [])), (⟨2, (.some 130), .none, (.o (.s (.ia 1 (.t 128) (.t 129))))⟩,
    (.mk 1 [])), (⟨3, (.some 131), .none, (.o (.s (.load .none (.t 130))))⟩, (.mk 1 [])), (⟨9, (.some 137), .none, (.o (.s (.ia 1 (.t 132) (.t 136))))⟩, (.mk 1 [])), (⟨10,
    (.some 138), .none, (.o (.s (.load .none (.t 137))))⟩, (.mk 1 [])), (⟨11, (.some 139), .none, (.o (.s (.bin .add (.t 131) (.t 138))))⟩, (.mk 0 [])), (⟨14, (.some 142),
    .none, (.o (.s (.ia 1 (.t 140) (.t 141))))⟩, (.mk 1 [])), (⟨15, (.some 143), .none, (.o (.s (.load .none (.t 142))))⟩, (.mk 1 [])), (⟨21, (.some 149), .none,
    (.o (.s (.ia 1 (.t 144) (.t 148))))⟩, (.mk 1 [])), (⟨22, (.some 150), .none, (.o (.s (.load .none (.t 149))))⟩, (.mk 1 [])), (⟨23, (.some 151), .none,
    (.o (.s (.bin .add (.t 143) (.t 150))))⟩, (.mk 0 [])), (⟨24, (.some 152), .none, (.o (.s (.bin .gtr (.t 139) (.t 151))))⟩, (.mk 0 []))]) (.cond (.t 152) (.ops 2 [⟨0,
    (.some 153), .none, (.o (.s (.mv (.t 20))))⟩, ⟨1, (.some 19), .none, (.o (.s (.mv (.t 153))))⟩]) .skip)))) (.ops 2 [⟨0, (.some 154), .none, (.o (.s (.bin .add (.t 125)
    (.k (.int .i64 (1))))))⟩, ⟨1, (.some 125), .none, (.o (.s (.mv (.t 154))))⟩]))))
theorem F21l1w : F21l1.wf = true := by kernel_rfl
def F21l2 : S2 :=
  (.seq (.seq (.dops 29 [(⟨0, (.some 59), .none, (.o (.s (.mv (.t 10))))⟩, (.mk 0 [])), (⟨1, (.some 60), .none, (.o (.s (.mv (.t 1))))⟩, (.mk 0 [])), (⟨2, (.some 61), .none,
    (.o (.s (.len (.t 60))))⟩, (.mk 0 [])), (⟨3, (.some 62), .none, (.o (.s (.bin .lss (.t 59) (.t 61))))⟩, (.mk 0 [])), (⟨4, (.some 63), .none, (.o (.s (.mv (.t 62))))⟩,
    (.mk 0 [])), (⟨5, (.some 64), (.some (63, .true)), (.o (.s (.mv (.t 10))))⟩, (.mk 0 [])), (⟨6, (.some 65), (.some (63, .true)), (.o (.s (.mv (.t 2))))⟩, (.mk 0 [])),
    (⟨7, (.some 66), (.some (63, .true)), (.o (.s (.len (.t 65))))⟩, (.mk 0 [])), (⟨8, (.some 67), (.some (63, .true)), (.o (.s (.bin .lss (.t 64) (.t 66))))⟩,
    (.mk 0 [])), (⟨9, (.some 68), .none, (.o (.s (.pick (.t 63) (.t 67) (.k (.bool .false)))))⟩, (.mk 0 [])), (⟨10, (.some 69), .none, (.o (.s (.mv (.t 68))))⟩,
    (.mk 0 [])), (⟨11, (.some 70), (.some (69, .true)), (.o (.s (.mv (.t 1))))⟩, (.mk 0 [])), (⟨12, (.some 71), (.some (69, .true)), (.o (.s (.mv (.t 1))))⟩, (.mk 0 [])),
    (⟨13, (.some 72), (.some (69, .true)), (.o (.s (.len (.t 71))))⟩, (.mk 0 [])), (⟨14, (.some 73), (.some (69, .true)), (.o (.s (.bin .sub (.t 72)
    (.k (.int .i64 (1))))))⟩, (.mk 0 [])), (⟨15, (.some 74), (.some (69, .true)), (.o (.s (.mv (.t 10))))⟩, (.mk 0 [])), (⟨16, (.some 75), (.some (69, .true)),
    (.o (.s (.bin .sub (.t 73) (.t 74))))⟩, (.mk 0 [])), (⟨19, (.some 78), (.some (69, .true)), (.o (.s (.mv (.t 2))))⟩, (.mk 0 [])), (⟨20, (.some 79), (.some (69,
    .true)), (.o (.s (.mv (.t 2))))⟩, (.mk 0 [])), (⟨21, (.some 80), (.some (69, .true)), (.o (.s (.len (.t 79))))⟩, (.mk 0 [])), (⟨22, (.some 81), (.some (69, .true)),
    (.o (.s (.bin .sub (.t 80) (.k (.int .i64 (1))))))⟩, (.mk 0 [])), (⟨23, (.some 82), (.some (69, .true)), (.o (.s (.mv (.t 10))))⟩, (.mk 0 [])), (⟨24, (.some 83),
    (.some (69, .true)), (.o (.s (.bin .sub (.t 81) (.t 82))))⟩, (.mk 0 [])), (⟨17, (.some 76), (.some (69, .true)), (.o (.s (.ia 1 (.t 70) (.t 75))))⟩, (.mk 1 [])), (⟨18,
    (.some 77), (.some (69, .true)), (.o (.s (.load .none (.t 76))))⟩, (.mk 1 [])), (⟨25, (.some 84), (.some (69, .true)), (.o (.s (.ia 1 (.t 78) (.t 83))))⟩, (.mk 1 [])),
    (⟨26, (.some 85), (.some (69, .true)), (.o (.s (.load .none (.t 84))))⟩, (.mk 1 [])), (⟨27, (.some 86), (.some (69, .true)), (.o (.s (.bin .eql (.t 77) (.t 85))))⟩,
    (.mk 0 [])), (⟨28, (.some 87), .none, (.o (.s (.pick (.t 69) (.t 86) (.k (.bool .false)))))⟩, (.mk 0 []))]) (.cond (.t 87) .skip (.exit 2))) (.block 3 (.ops 3 [⟨0,
    (.some 88), .none, (.o (.s (.mv (.t 10))))⟩, ⟨1, (.some 89), .none, (.o (.s (.bin .add (.t 88) (.k (.int .i64 (1))))))⟩, ⟨2, (.some 10), .none,
    (.o (.s (.mv (.t 89))))⟩])))
theorem F21l2w : F21l2.wf = true := by kernel_rfl
def F21l3 : S2 :=
  (.seq (.seq (.dops 17 [(⟨0, (.some 22), .none, (.o (.s (.mv (.t 1))))⟩, (.mk 0 [])), (⟨1, (.some 23), .none, (.o (.s (.len (.t 22))))⟩, (.mk 0 [])), (⟨2, (.some 24),
    .none, (.o (.s (.bin .gtr (.t 23) (.k (.int .i64 (0))))))⟩, (.mk 0 [])), (⟨3, (.some 25), .none, (.o (.s (.mv (.t 24))))⟩, (.mk 0 [])), (⟨4, (.some 26), (.some (25,
    .true)), (.o (.s (.mv (.t 2))))⟩, (.mk 0 [])), (⟨5, (.some 27), (.some (25, .true)), (.o (.s (.len (.t 26))))⟩, (.mk 0 [])), (⟨6, (.some 28), (.some (25, .true)),
    (.o (.s (.bin .gtr (.t 27) (.k (.int .i64 (0))))))⟩, (.mk 0 [])), (⟨7, (.some 29), .none, (.o (.s (.pick (.t 25) (.t 28) (.k (.bool .false)))))⟩, (.mk 0 [])), (⟨8,
    (.some 30), .none, (.o (.s (.mv (.t 29))))⟩, (.mk 0 [])), (⟨9, (.some 31), (.some (30, .true)), (.o (.s (.mv (.t 1))))⟩, (.mk 0 [])), (⟨12, (.some 34), (.some (30,
    .true)), (.o (.s (.mv (.t 2))))⟩, (.mk 0 [])), (⟨10, (.some 32), (.some (30, .true)), (.o (.s (.ia 1 (.t 31) (.k (.int .i64 (0))))))⟩, (.mk 1 [])), (⟨11, (.some 33),
    (.some (30, .true)), (.o (.s (.load .none (.t 32))))⟩, (.mk 1 [])), (⟨13, (.some 35), (.some (30, .true)), (.o (.s (.ia 1 (.t 34) (.k (.int .i64 (0))))))⟩,
    (.mk 1 [])), (⟨14, (.some 36), (.some (30, .true)), (.o (.s (.load .none (.t 35))))⟩, (.mk 1 [])), (⟨15, (.some 37), (.some (30, .true)), (.o (.s (.bin .eql (.t 33)
    (.t 36))))⟩, (.mk 0 [])), (⟨16, (.some 38), .none, (.o (.s (.pick (.t 30) (.t 37) (.k (.bool .false)))))⟩, (.mk 0 []))]) (.cond (.t 38) .skip (.exit 0)))
    (.block 1 (.seq (.ops 13 [⟨0, (.some 39), .none, (.o (.s (.mv (.t 0))))⟩, ⟨1, (.some 40), .none, (.o (.s (.mv (.t 0))))⟩, ⟨2, (.some 41), .none,
    (.o (.s (.nilck (.t 40))))⟩, ⟨3, (.some 42), .none, (.o (.s (.fa 0 (.t 41))))⟩, ⟨4, (.some 43), .none, (.o (.s (.load .none (.t 42))))⟩, ⟨5, (.some 44), .none,
    (.o (.s (.mv (.t 3))))⟩, ⟨6, (.some 45), .none, (.o (.s (.mv (.t 4))))⟩, ⟨7, (.some 46), .none, (.o (.s (.build [(.int .i64 (0)), (.int .i64 (0))] [(0, (1, (.t 44))),
    (1, (1, (.t 45)))])))⟩, ⟨8, (.some 47), .none, (.lbsl 0 31 2 1 [(.int .i64 (0)), (.int .i64 (0))] [(0, (.t 46))] .false)⟩, ⟨9, (.some 48), .none,
    (.o (.s (.app 31 2 16 (.t 43) (.t 47))))⟩, ⟨10, (.some 49), .none, (.o (.s (.nilck (.t 39))))⟩, ⟨11, (.some 50), .none, (.o (.s (.fa 0 (.t 49))))⟩, ⟨12, .none, .none,
    (.o (.s (.store 1 (.t 50) (.t 48))))⟩]) (.dops 12 [(⟨0, (.some 51), .none, (.o (.s (.mv (.t 1))))⟩, (.mk 0 [])), (⟨2, (.some 53), .none, (.o (.s (.mv (.t 2))))⟩,
    (.mk 0 [])), (⟨4, (.some 55), .none, (.o (.s (.mv (.t 3))))⟩, (.mk 0 [])), (⟨5, (.some 56), .none, (.o (.s (.bin .add (.t 55) (.k (.int .i64 (1))))))⟩, (.mk 0 [])),
    (⟨6, (.some 57), .none, (.o (.s (.mv (.t 4))))⟩, (.mk 0 [])), (⟨7, (.some 58), .none, (.o (.s (.bin .add (.t 57) (.k (.int .i64 (1))))))⟩, (.mk 0 [])), (⟨1,
    (.some 52), .none, (.o (.s (.sub 1 (.t 51) (.some (.k (.int .i64 (1)))) .none)))⟩, (.mk 1 [])), (⟨8, (.some 1), .none, (.o (.s (.mv (.t 52))))⟩, (.mk 0 [])), (⟨3,
    (.some 54), .none, (.o (.s (.sub 1 (.t 53) (.some (.k (.int .i64 (1)))) .none)))⟩, (.mk 1 [])), (⟨9, (.some 2), .none, (.o (.s (.mv (.t 54))))⟩, (.mk 0 [])), (⟨10,
    (.some 3), .none, (.o (.s (.mv (.t 56))))⟩, (.mk 0 [])), (⟨11, (.some 4), .none, (.o (.s (.mv (.t 58))))⟩, (.mk 0 []))]))))
theorem F21l3w : F21l3.wf = true := by kernel_rfl
def F21s : S2 :=
  (.seq (.block 0 (.loop F21l3)) (.seq (.ops 1 [⟨0, (.some 10), .none, (.o (.s (.mv (.k (.int .i64 (0))))))⟩]) (.seq (.block 2 (.loop F21l2)) (.seq (.dops 14 [(⟨0,
    (.some 90), .none, (.o (.s (.mv (.t 1))))⟩, (.mk 0 [])), (⟨1, (.some 91), .none, (.o (.s (.mv (.t 1))))⟩, (.mk 0 [])), (⟨2, (.some 92), .none,
    (.o (.s (.len (.t 91))))⟩, (.mk 0 [])), (⟨3, (.some 93), .none, (.o (.s (.mv (.t 10))))⟩, (.mk 0 [])), (⟨4, (.some 94), .none, (.o (.s (.bin .sub (.t 92) (.t 93))))⟩,
    (.mk 0 [])), (⟨6, (.some 96), .none, (.o (.s (.mv (.t 2))))⟩, (.mk 0 [])), (⟨7, (.some 97), .none, (.o (.s (.mv (.t 2))))⟩, (.mk 0 [])), (⟨8, (.some 98), .none,
    (.o (.s (.len (.t 97))))⟩, (.mk 0 [])), (⟨9, (.some 99), .none, (.o (.s (.mv (.t 10))))⟩, (.mk 0 [])), (⟨10, (.some 100), .none, (.o (.s (.bin .sub (.t 98)
    (.t 99))))⟩, (.mk 0 [])), (⟨5, (.some 95), .none, (.o (.s (.sub 1 (.t 90) .none (.some (.t 94)))))⟩, (.mk 1 [])), (⟨12, (.some 11), .none, (.o (.s (.mv (.t 95))))⟩,
    (.mk 0 [])), (⟨11, (.some 101), .none, (.o (.s (.sub 1 (.t 96) .none (.some (.t 100)))))⟩, (.mk 1 [])), (⟨13, (.some 12), .none, (.o (.s (.mv (.t 101))))⟩,
    (.mk 0 []))]) (.seq (.block 4 (.seq (.ops 9 [⟨0, (.some 180), .none, (.o (.s (.mv (.t 11))))⟩, ⟨1, (.some 181), .none, (.o (.s (.len (.t 180))))⟩, ⟨2, (.some 182),
    .none, (.o (.s (.bin .eql (.t 181) (.k (.int .i64 (0))))))⟩, ⟨3, (.some 183), .none, (.o (.s (.mv (.t 182))))⟩, ⟨4, (.some 184), (.some (183, .false)),
    (.o (.s (.mv (.t 12))))⟩, ⟨5, (.some 185), (.some (183, .false)), (.o (.s (.len (.t 184))))⟩, ⟨6, (.some 186), (.some (183, .false)), (.o (.s (.bin .eql (.t 185)
    (.k (.int .i64 (0))))))⟩, ⟨7, (.some 187), .none, (.o (.s (.pick (.t 183) (.k (.bool .true)) (.t 186))))⟩, ⟨8, (.some 179), .none, (.o (.s (.mv (.t 187))))⟩])
    (.cond (.t 179) .skip (.seq (.ops 4 [⟨0, (.some 189), .none, (.o (.s (.mv (.t 11))))⟩, ⟨1, (.some 190), .none, (.o (.s (.len (.t 189))))⟩, ⟨2, (.some 191), .none,
    (.o (.s (.bin .eql (.t 190) (.k (.int .i64 (1))))))⟩, ⟨3, (.some 188), .none, (.o (.s (.mv (.t 191))))⟩]) (.cond (.t 188) (.seq (.ops 6 [⟨0, (.some 192), .none,
    (.o (.s (.mv (.t 12))))⟩, ⟨1, (.some 193), .none, (.o (.s (.mv (.t 11))))⟩, ⟨2, (.some 194), .none, (.o (.s (.ia 1 (.t 193) (.k (.int .i64 (0))))))⟩, ⟨3, (.some 195),
    .none, (.o (.s (.load .none (.t 194))))⟩, ⟨4, (.some 196), .none, (.o (.call 23 [(.t 192), (.t 195)]))⟩, ⟨5, (.some 13), .none, (.o (.s (.mv (.t 196))))⟩])
    (.seq (.ops 2 [⟨0, (.some 197), .none, (.o (.s (.mv (.t 13))))⟩, ⟨1, (.some 198), .none, (.o (.s (.bin .geq (.t 197) (.k (.int .i64 (0))))))⟩]) (.cond (.t 198)
    (.ops 15 [⟨0, (.some 199), .none, (.o (.s (.mv (.t 0))))⟩, ⟨1, (.some 200), .none, (.o (.s (.mv (.t 0))))⟩, ⟨2, (.some 201), .none, (.o (.s (.nilck (.t 200))))⟩, ⟨3,
    (.some 202), .none, (.o (.s (.fa 0 (.t 201))))⟩, ⟨4, (.some 203), .none, (.o (.s (.load .none (.t 202))))⟩, ⟨5, (.some 204), .none, (.o (.s (.mv (.t 3))))⟩, ⟨6,
    (.some 205), .none, (.o (.s (.mv (.t 4))))⟩, ⟨7, (.some 206), .none, (.o (.s (.mv (.t 13))))⟩, ⟨8, (.some 207), .none, (.o (.s (.bin .add (.t 205) (.t 206))))⟩, ⟨9,
    (.some 208), .none, (.o (.s (.build [(.int .i64 (0)), (.int .i64 (0))] [(0, (1, (.t 204))), (1, (1, (.t 207)))])))⟩, ⟨10, (.some 209), .none,
    (.lbsl 0 31 2 1 [(.int .i64 (0)), (.int .i64 (0))] [(0, (.t 208))] .false)⟩, ⟨11, (.some 210), .none, (.o (.s (.app 31 2 16 (.t 203) (.t 209))))⟩, ⟨12, (.some 211),
    .none, (.o (.s (.nilck (.t 199))))⟩, ⟨13, (.some 212), .none, (.o (.s (.fa 0 (.t 211))))⟩, ⟨14, .none, .none, (.o (.s (.store 1 (.t 212) (.t 210))))⟩]) .skip)))
    (.seq (.ops 4 [⟨0, (.some 102), .none, (.o (.s (.mv (.t 11))))⟩, ⟨1, (.some 103), .none, (.o (.s (.len (.t 102))))⟩, ⟨2, (.some 104), .none,
    (.o (.s (.bin .quo (.t 103) (.k (.int .i64 (2))))))⟩, ⟨3, (.some 14), .none, (.o (.s (.mv (.t 104))))⟩]) (.seq (.ops 6 [⟨0, (.some 105), .none,
    (.o (.s (.mv (.t 11))))⟩, ⟨1, (.some 106), .none, (.o (.s (.mv (.t 14))))⟩, ⟨2, (.some 107), .none, (.o (.s (.sub 1 (.t 105) .none (.some (.t 106)))))⟩, ⟨3,
    (.some 108), .none, (.o (.s (.mv (.t 12))))⟩, ⟨4, (.some 109), .none, (.o (.call 24 [(.t 107), (.t 108)]))⟩, ⟨5, (.some 15), .none, (.o (.s (.mv (.t 109))))⟩])
    (.seq (.ops 8 [⟨0, (.some 110), .none, (.o (.s (.mv (.t 11))))⟩, ⟨1, (.some 111), .none, (.o (.s (.mv (.t 14))))⟩, ⟨2, (.some 112), .none, (.o (.s (.sub 1 (.t 110)
    (.some (.t 111)) .none)))⟩, ⟨3, (.some 113), .none, (.o (.call 25 [(.t 112)]))⟩, ⟨4, (.some 114), .none, (.o (.s (.mv (.t 12))))⟩, ⟨5, (.some 115), .none,
    (.o (.call 25 [(.t 114)]))⟩, ⟨6, (.some 16), .none, (.o (.s (.mv (.t 113))))⟩, ⟨7, (.some 17), .none, (.o (.s (.mv (.t 115))))⟩]) (.seq (.ops 2 [⟨0, (.some 116),
    .none, (.o (.s (.mv (.t 16))))⟩, ⟨1, (.some 117), .none, (.o (.call 26 [(.t 116)]))⟩]) (.seq (.ops 2 [⟨0, (.some 118), .none, (.o (.s (.mv (.t 17))))⟩, ⟨1,
    (.some 119), .none, (.o (.call 26 [(.t 118)]))⟩]) (.seq (.ops 4 [⟨0, (.some 120), .none, (.o (.s (.mv (.t 16))))⟩, ⟨1, (.some 121), .none, (.o (.s (.mv (.t 17))))⟩,
    ⟨2, (.some 122), .none, (.o (.call 24 [(.t 120), (.t 121)]))⟩, ⟨3, (.some 18), .none, (.o (.s (.mv (.t 122))))⟩]) (.seq (.ops 1 [⟨0, (.some 19), .none,
    (.o (.s (.mv (.k (.int .i64 (0))))))⟩]) (.seq (.seq (.ops 3 [⟨0, (.some 123), .none, (.o (.s (.mv (.t 15))))⟩, ⟨1, (.some 124), .none, (.o (.s (.len (.t 123))))⟩, ⟨2,
    (.some 125), .none, (.o (.s (.mv (.k (.int .i64 (0))))))⟩]) (.block 5 (.loop F21l1))) (.seq (.dopc 10 [(⟨0, (.some 155), .none, (.o (.s (.mv (.t 0))))⟩, (.mk 0 [])),
    (⟨1, (.some 156), .none, (.o (.s (.mv (.t 11))))⟩, (.mk 0 [])), (⟨2, (.some 157), .none, (.o (.s (.mv (.t 14))))⟩, (.mk 0 [])), (⟨4, (.some 159), .none,
    (.o (.s (.mv (.t 12))))⟩, (.mk 0 [])), (⟨5, (.some 160), .none, (.o (.s (.mv (.t 19))))⟩, (.mk 0 [])), (⟨7, (.some 162), .none, (.o (.s (.mv (.t 3))))⟩, (.mk 0 [])),
    (⟨8, (.some 163), .none, (.o (.s (.mv (.t 4))))⟩, (.mk 0 [])), (⟨3, (.some 158), .none, (.o (.s (.sub 1 (.t 156) .none (.some (.t 157)))))⟩, (.mk 1 [])), (⟨6,
    (.some 161), .none, (.o (.s (.sub 1 (.t 159) .none (.some (.t 160)))))⟩, (.mk 1 [])), (⟨9, (.some 164), .none, (.o (.icall 21 [(.t 155), (.t 158), (.t 161), (.t 162),
    (.t 163)]))⟩, (.mk 0 []))]) (.dopc 14 [(⟨0, (.some 165), .none, (.o (.s (.mv (.t 0))))⟩, (.mk 0 [])), (⟨1, (.some 166), .none, (.o (.s (.mv (.t 11))))⟩, (.mk 0 [])),
    (⟨2, (.some 167), .none, (.o (.s (.mv (.t 14))))⟩, (.mk 0 [])), (⟨4, (.some 169), .none, (.o (.s (.mv (.t 12))))⟩, (.mk 0 [])), (⟨5, (.some 170), .none,
    (.o (.s (.mv (.t 19))))⟩, (.mk 0 [])), (⟨7, (.some 172), .none, (.o (.s (.mv (.t 3))))⟩, (.mk 0 [])), (⟨8, (.some 173), .none, (.o (.s (.mv (.t 14))))⟩, (.mk 0 [])),
    (⟨9, (.some 174), .none, (.o (.s (.bin .add (.t 172) (.t 173))))⟩, (.mk 0 [])), (⟨10, (.some 175), .none, (.o (.s (.mv (.t 4))))⟩, (.mk 0 [])), (⟨11, (.some 176),
    .none, (.o (.s (.mv (.t 19))))⟩, (.mk 0 [])), (⟨12, (.some 177), .none, (.o (.s (.bin .add (.t 175) (.t 176))))⟩, (.mk 0 [])), (⟨3, (.some 168), .none,
    (.o (.s (.sub 1 (.t 166) (.some (.t 167)) .none)))⟩, (.mk 1 [])), (⟨6, (.some 171), .none, (.o (.s (.sub 1 (.t 169) (.some (.t 170)) .none)))⟩, (.mk 1 [])), (⟨13,
    (.some 178), .none, (.o (.icall 21 [(.t 165), (.t 168), (.t 171), (.t 174), (.t 177)]))⟩, (.mk 0 []))]))))))))))))))) (.seq (.ops 2 [⟨0, (.some 213), .none,
    (.o (.s (.mv (.t 10))))⟩, ⟨1, (.some 214), .none, (.o (.s (.mv (.k (.int .i64 (0))))))⟩]) (.block 7 (.loop F21l0))))))))
noncomputable def F21b : Go.Code := Go.Proofs.Try.f21.body.getD .skip
theorem F21c : comp C [(20, 9), (21, 13)] F21b = some F21s.er := by kernel_rfl
theorem F21w : F21s.wf = true := by kernel_rfl
theorem F21d : Go.Proofs.Try.f21.body = some F21b := by kernel_rfl
@[simp] def F21q : List RV2 := []
theorem F21r : compRVs C Go.Proofs.Try.f21.results.toList = some (F21q.map RV2.er) := by kernel_rfl
theorem F21e : Enters Go.Proofs.Try.prog 21 := enters_of Go.Proofs.Try.func21 (by kernel_rfl) (by kernel_rfl)

/-- slices.Equal[[]int,int] --  -/
def F22l0 : S2 :=
  (.seq (.ops 1 [⟨0, (.some 14), .none, (.o (.s (.bin .lss (.t 13) (.t 12))))⟩]) (.seq (.cond (.t 14) .skip (.exit 0)) (.seq (.block 1 (.seq (.ops 2 [⟨0, (.some 15), .none,
    (.o (.s (.mv (.t 13))))⟩, ⟨1, (.some 5), .none, (.o (.s (.mv (.t 15))))⟩]) (.seq (.dops 9 [(⟨0, (.some 16), .none, (.o (.s (.mv (.t 0))))⟩, (.mk 0 [])), (⟨1,
    (.some 17), .none, (.o (.s (.mv (.t 5))))⟩, (.mk 0 [])), (⟨4, (.some 20), .none, (.o (.s (.mv (.t 1))))⟩, (.mk 0 [])), (⟨5, (.some 21), .none, (.o (.s (.mv (.t 5))))⟩,
    (.mk 0 [])), (⟨2, (.some 18), .none, (.o (.s (.ia 1 (.t 16) (.t 17))))⟩, (.mk 1 [])), (⟨3, (.some 19), .none, (.o (.s (.load .none (.t 18))))⟩, (.mk 1 [])), (⟨6,
    (.some 22), .none, (.o (.s (.ia 1 (.t 20) (.t 21))))⟩, (.mk 1 [])), (⟨7, (.some 23), .none, (.o (.s (.load .none (.t 22))))⟩, (.mk 1 [])), (⟨8, (.some 24), .none,
    (.o (.s (.bin .neq (.t 19) (.t 23))))⟩, (.mk 0 []))]) (.cond (.t 24) (.seq (.ops 1 [⟨0, (.some 4), .none, (.o (.s (.mv (.k (.bool .false)))))⟩]) .ret) .skip))))
    (.ops 2 [⟨0, (.some 25), .none, (.o (.s (.bin .add (.t 13) (.k (.int .i64 (1))))))⟩, ⟨1, (.some 13), .none, (.o (.s (.mv (.t 25))))⟩]))))
theorem F22l0w : F22l0.wf = true := by kernel_rfl
def F22s : S2 :=
  (.seq (.ops 1 [⟨0, (.some 4), .none, (.o (.s (.mv (.k (.bool .false)))))⟩]) (.seq (.seq (.ops 5 [⟨0, (.some 6), .none, (.o (.s (.mv (.t 0))))⟩, ⟨1, (.some 7), .none,
    (.o (.s (.len (.t 6))))⟩, ⟨2, (.some 8), .none, (.o (.s (.mv (.t 1))))⟩, ⟨3, (.some 9), .none, (.o (.s (.len (.t 8))))⟩, ⟨4, (.some 10), .none,
    (.o (.s (.bin .neq (.t 7) (.t 9))))⟩]) (.cond (.t 10) (.seq (.ops 1 [⟨0, (.some 4), .none, (.o (.s (.mv (.k (.bool .false)))))⟩]) .ret) .skip))
    (.seq (.seq (.ops 3 [⟨0, (.some 11), .none, (.o (.s (.mv (.t 0))))⟩, ⟨1, (.some 12), .none, (.o (.s (.len (.t 11))))⟩, ⟨2, (.some 13), .none,
    (.o (.s (.mv (.k (.int .i64 (0))))))⟩]) (.block 0 (.loop F22l0))) (.seq (.ops 1 [⟨0, (.some 4), .none, (.o (.s (.mv (.k (.bool .true)))))⟩]) .ret))))
noncomputable def F22b : Go.Code := Go.Proofs.Try.f22.body.getD .skip
theorem F22c : comp C [] F22b = some F22s.er := by kernel_rfl
theorem F22w : F22s.wf = true := by kernel_rfl
theorem F22d : Go.Proofs.Try.f22.body = some F22b := by kernel_rfl
@[simp] def F22q : List RV2 := [(.o (.tmp 4))]
theorem F22r : compRVs C Go.Proofs.Try.f22.results.toList = some (F22q.map RV2.er) := by kernel_rfl
theorem F22e : Enters Go.Proofs.Try.prog 22 := enters_of Go.Proofs.Try.func22 (by kernel_rfl) (by kernel_rfl)

/-- slices.Index[[]int,int] --  -/
def F23l0 : S2 :=
  (.seq (.ops 1 [⟨0, (.some 9), .none, (.o (.s (.bin .lss (.t 8) (.t 7))))⟩]) (.seq (.cond (.t 9) .skip (.exit 0)) (.seq (.block 1 (.seq (.ops 2 [⟨0, (.some 10), .none,
    (.o (.s (.mv (.t 8))))⟩, ⟨1, (.some 5), .none, (.o (.s (.mv (.t 10))))⟩]) (.seq (.ops 6 [⟨0, (.some 11), .none, (.o (.s (.mv (.t 1))))⟩, ⟨1, (.some 12), .none,
    (.o (.s (.mv (.t 0))))⟩, ⟨2, (.some 13), .none, (.o (.s (.mv (.t 5))))⟩, ⟨3, (.some 14), .none, (.o (.s (.ia 1 (.t 12) (.t 13))))⟩, ⟨4, (.some 15), .none,
    (.o (.s (.load .none (.t 14))))⟩, ⟨5, (.some 16), .none, (.o (.s (.bin .eql (.t 11) (.t 15))))⟩]) (.cond (.t 16) (.seq (.ops 2 [⟨0, (.some 17), .none,
    (.o (.s (.mv (.t 5))))⟩, ⟨1, (.some 4), .none, (.o (.s (.mv (.t 17))))⟩]) .ret) .skip)))) (.ops 2 [⟨0, (.some 18), .none, (.o (.s (.bin .add (.t 8)
    (.k (.int .i64 (1))))))⟩, ⟨1, (.some 8), .none, (.o (.s (.mv (.t 18))))⟩]))))
theorem F23l0w : F23l0.wf = true := by kernel_rfl
def F23s : S2 :=
  (.seq (.ops 1 [⟨0, (.some 4), .none, (.o (.s (.mv (.k (.int .i64 (0))))))⟩]) (.seq (.seq (.ops 3 [⟨0, (.some 6), .none, (.o (.s (.mv (.t 0))))⟩, ⟨1, (.some 7), .none,
    (.o (.s (.len (.t 6))))⟩, ⟨2, (.some 8), .none, (.o (.s (.mv (.k (.int .i64 (0))))))⟩]) (.block 0 (.loop F23l0))) (.seq (.ops 1 [⟨0, (.some 4), .none,
    (.o (.s (.mv (.k (.int .i64 (-1))))))⟩]) .ret)))
noncomputable def F23b : Go.Code := Go.Proofs.Try.f23.body.getD .skip
theorem F23c : comp C [] F23b = some F23s.er := by kernel_rfl
theorem F23w : F23s.wf = true := by kernel_rfl
theorem F23d : Go.Proofs.Try.f23.body = some F23b := by kernel_rfl
@[simp] def F23q : List RV2 := [(.o (.tmp 4))]
theorem F23r : compRVs C Go.Proofs.Try.f23.results.toList = some (F23q.map RV2.er) := by kernel_rfl
theorem F23e : Enters Go.Proofs.Try.prog 23 := enters_of Go.Proofs.Try.func23 (by kernel_rfl) (by kernel_rfl)

/-- scarf/myers.table --  -/
def F24l0 : S2 :=
  (.seq (.ops 1 [⟨0, (.some 28), .none, (.o (.s (.bin .lss (.t 27) (.t 26))))⟩]) (.seq (.cond (.t 28) .skip (.exit 2)) (.seq (.block 3 (.seq (.ops 5 [⟨0, (.some 29), .none,
    (.o (.s (.mv (.t 27))))⟩, ⟨1, (.some 30), .none, (.o (.s (.ia 1 (.t 25) (.t 27))))⟩, ⟨2, (.some 31), .none, (.o (.s (.load .none (.t 30))))⟩, ⟨3, (.some 9), .none,
    (.o (.s (.mv (.t 29))))⟩, ⟨4, (.some 10), .none, (.o (.s (.mv (.t 31))))⟩]) (.seq (.ops 3 [⟨0, (.some 32), .none, (.o (.s (.mv (.t 8))))⟩, ⟨1, (.some 33), .none,
    (.o (.s (.mv (.t 10))))⟩, ⟨2, (.some 34), .none, (.o (.s (.bin .eql (.t 32) (.t 33))))⟩]) (.cond (.t 34) (.ops 10 [⟨0, (.some 35), .none, (.o (.s (.mv (.t 6))))⟩, ⟨1,
    (.some 36), .none, (.o (.s (.mv (.t 9))))⟩, ⟨2, (.some 37), .none, (.o (.s (.bin .add (.t 36) (.k (.int .i64 (1))))))⟩, ⟨3, (.some 38), .none, (.o (.s (.mv (.t 5))))⟩,
    ⟨4, (.some 39), .none, (.o (.s (.mv (.t 9))))⟩, ⟨5, (.some 40), .none, (.o (.s (.ia 1 (.t 38) (.t 39))))⟩, ⟨6, (.some 41), .none, (.o (.s (.load .none (.t 40))))⟩, ⟨7,
    (.some 42), .none, (.o (.s (.bin .add (.t 41) (.k (.int .i64 (1))))))⟩, ⟨8, (.some 43), .none, (.o (.s (.ia 1 (.t 35) (.t 37))))⟩, ⟨9, .none, .none,
    (.o (.s (.store 1 (.t 43) (.t 42))))⟩]) (.dops 15 [(⟨0, (.some 44), .none, (.o (.s (.mv (.t 6))))⟩, (.mk 0 [])), (⟨1, (.some 45), .none, (.o (.s (.mv (.t 9))))⟩,
    (.mk 0 [])), (⟨2, (.some 46), .none, (.o (.s (.bin .add (.t 45) (.k (.int .i64 (1))))))⟩, (.mk 0 [])), (⟨3, (.some 47), .none, (.o (.s (.mv (.t 6))))⟩, (.mk 0 [])),
    (⟨4, (.some 48), .none, (.o (.s (.mv (.t 9))))⟩, (.mk 0 [])), (⟨7, (.some 51), .none, (.o (.s (.mv (.t 5))))⟩, (.mk 0 [])), (⟨8, (.some 52), .none,
    (.o (.s (.mv (.t 9))))⟩, (.mk 0 [])), (⟨9, (.some 53), .none, (.o (.s (.bin .add (.t 52) (.k (.int .i64 (1))))))⟩, (.mk 0 [])), (⟨5, (.some 49), .none,
    (.o (.s (.ia 1 (.t 47) (.t 48))))⟩, (.mk 1 [])), (⟨6, (.some 50), .none, (.o (.s (.load .none (.t 49))))⟩, (.mk 1 [])), (⟨10, (.some 54), .none, (.o (.s (.ia 1 (.t 51)
    (.t 53))))⟩, (.mk 1 [])), (⟨11, (.some 55), .none, (.o (.s (.load .none (.t 54))))⟩, (.mk 1 [])), (⟨12, (.some 56), .none, (.o (.s (.mx (.t 50) (.t 55))))⟩,
    (.mk 0 [])), (⟨13, (.some 57), .none, (.o (.s (.ia 1 (.t 44) (.t 46))))⟩, (.mk 1 [])), (⟨14, .none, .none, (.o (.s (.store 1 (.t 57) (.t 56))))⟩, (.mk 2 []))])))))
    (.ops 2 [⟨0, (.some 58), .none, (.o (.s (.bin .add (.t 27) (.k (.int .i64 (1))))))⟩, ⟨1, (.some 27), .none, (.o (.s (.mv (.t 58))))⟩]))))
theorem F24l0w : F24l0.wf = true := by kernel_rfl
def F24l1 : S2 :=
  (.seq (.ops 1 [⟨0, (.some 22), .none, (.o (.s (.bin .lss (.t 21) (.t 20))))⟩]) (.seq (.cond (.t 22) .skip (.exit 0)) (.seq (.block 1 (.seq (.ops 3 [⟨0, (.some 23), .none,
    (.o (.s (.ia 1 (.t 19) (.t 21))))⟩, ⟨1, (.some 24), .none, (.o (.s (.load .none (.t 23))))⟩, ⟨2, (.some 8), .none, (.o (.s (.mv (.t 24))))⟩]) (.seq (.seq (.ops 3 [⟨0,
    (.some 25), .none, (.o (.s (.mv (.t 1))))⟩, ⟨1, (.some 26), .none, (.o (.s (.len (.t 25))))⟩, ⟨2, (.some 27), .none, (.o (.s (.mv (.k (.int .i64 (0))))))⟩])
    (.block 2 (.loop F24l0))) (.ops 4 [⟨0, (.some 59), .none, (.o (.s (.mv (.t 6))))⟩, ⟨1, (.some 60), .none, (.o (.s (.mv (.t 5))))⟩, ⟨2, (.some 5), .none,
    (.o (.s (.mv (.t 59))))⟩, ⟨3, (.some 6), .none, (.o (.s (.mv (.t 60))))⟩])))) (.ops 2 [⟨0, (.some 61), .none, (.o (.s (.bin .add (.t 21) (.k (.int .i64 (1))))))⟩, ⟨1,
    (.some 21), .none, (.o (.s (.mv (.t 61))))⟩]))))
theorem F24l1w : F24l1.wf = true := by kernel_rfl
def F24s : S2 :=
  (.seq (.ops 1 [⟨0, (.some 4), .none, (.o (.s (.mv (.k .nils))))⟩]) (.seq (.dops 10 [(⟨0, (.some 11), .none, (.o (.s (.mv (.t 1))))⟩, (.mk 0 [])), (⟨1, (.some 12), .none,
    (.o (.s (.len (.t 11))))⟩, (.mk 0 [])), (⟨2, (.some 13), .none, (.o (.s (.bin .add (.t 12) (.k (.int .i64 (1))))))⟩, (.mk 0 [])), (⟨4, (.some 15), .none,
    (.o (.s (.mv (.t 1))))⟩, (.mk 0 [])), (⟨5, (.some 16), .none, (.o (.s (.len (.t 15))))⟩, (.mk 0 [])), (⟨6, (.some 17), .none, (.o (.s (.bin .add (.t 16)
    (.k (.int .i64 (1))))))⟩, (.mk 0 [])), (⟨3, (.some 14), .none, (.o (.s (.mks 3 1 8 [(.int .i64 (0))] (.t 13) (.t 13) .true)))⟩, (.mk 0 [3])), (⟨8, (.some 5), .none,
    (.o (.s (.mv (.t 14))))⟩, (.mk 0 [])), (⟨7, (.some 18), .none, (.o (.s (.mks 3 1 8 [(.int .i64 (0))] (.t 17) (.t 17) .true)))⟩, (.mk 0 [7])), (⟨9, (.some 6), .none,
    (.o (.s (.mv (.t 18))))⟩, (.mk 0 []))]) (.seq (.seq (.ops 3 [⟨0, (.some 19), .none, (.o (.s (.mv (.t 0))))⟩, ⟨1, (.some 20), .none, (.o (.s (.len (.t 19))))⟩, ⟨2,
    (.some 21), .none, (.o (.s (.mv (.k (.int .i64 (0))))))⟩]) (.block 0 (.loop F24l1))) (.seq (.ops 2 [⟨0, (.some 62), .none, (.o (.s (.mv (.t 5))))⟩, ⟨1, (.some 4),
    .none, (.o (.s (.mv (.t 62))))⟩]) .ret))))
noncomputable def F24b : Go.Code := Go.Proofs.Try.f24.body.getD .skip
theorem F24c : comp C [(1, 3), (1, 7)] F24b = some F24s.er := by kernel_rfl
theorem F24w : F24s.wf = true := by kernel_rfl
theorem F24d : Go.Proofs.Try.f24.body = some F24b := by kernel_rfl
@[simp] def F24q : List RV2 := [(.o (.tmp 4))]
theorem F24r : compRVs C Go.Proofs.Try.f24.results.toList = some (F24q.map RV2.er) := by kernel_rfl
theorem F24e : Enters Go.Proofs.Try.prog 24 := enters_of Go.Proofs.Try.func24 (by kernel_rfl) (by kernel_rfl)

/-- slices.Clone[[]int,int] --  -/
def F25s : S2 :=
  (.seq (.ops 1 [⟨0, (.some 2), .none, (.o (.s (.mv (.k .nils))))⟩]) (.seq (.seq (.ops 2 [⟨0, (.some 3), .none, (.o (.s (.mv (.t 0))))⟩, ⟨1, (.some 4), .none,
    (.o (.s (.eqs .slice .false (.t 3) (.k .nils))))⟩]) (.cond (.t 4) (.seq (.ops 1 [⟨0, (.some 2), .none, (.o (.s (.mv (.k .nils))))⟩]) .ret) .skip)) (.seq (.ops 4 [⟨0,
    (.some 5), .none, (.o (.s .empt))⟩, ⟨1, (.some 6), .none, (.o (.s (.mv (.t 0))))⟩, ⟨2, (.some 7), .none, (.o (.s (.grow 3 1 8 (.t 5) (.t 6))))⟩, ⟨3, (.some 2), .none,
    (.o (.s (.mv (.t 7))))⟩]) .ret)))
noncomputable def F25b : Go.Code := Go.Proofs.Try.f25.body.getD .skip
theorem F25c : comp C [(3, 0), (3, 2)] F25b = some F25s.er := by kernel_rfl
theorem F25w : F25s.wf = true := by kernel_rfl
theorem F25d : Go.Proofs.Try.f25.body = some F25b := by kernel_rfl
@[simp] def F25q : List RV2 := [(.o (.tmp 2))]
theorem F25r : compRVs C Go.Proofs.Try.f25.results.toList = some (F25q.map RV2.er) := by kernel_rfl
theorem F25e : Enters Go.Proofs.Try.prog 25 := enters_of Go.Proofs.Try.func25 (by kernel_rfl) (by kernel_rfl)

/-- slices.Reverse[[]int,int] --  -/
def F26l0 : S2 :=
  (.seq (.seq (.ops 3 [⟨0, (.some 7), .none, (.o (.s (.mv (.t 2))))⟩, ⟨1, (.some 8), .none, (.o (.s (.mv (.t 3))))⟩, ⟨2, (.some 9), .none, (.o (.s (.bin .lss (.t 7)
    (.t 8))))⟩]) (.cond (.t 9) .skip (.exit 0))) (.seq (.block 1 (.dops 16 [(⟨0, (.some 14), .none, (.o (.s (.mv (.t 0))))⟩, (.mk 0 [])), (⟨1, (.some 15), .none,
    (.o (.s (.mv (.t 2))))⟩, (.mk 0 [])), (⟨2, (.some 16), .none, (.o (.s (.mv (.t 0))))⟩, (.mk 0 [])), (⟨3, (.some 17), .none, (.o (.s (.mv (.t 3))))⟩, (.mk 0 [])), (⟨4,
    (.some 18), .none, (.o (.s (.mv (.t 0))))⟩, (.mk 0 [])), (⟨5, (.some 19), .none, (.o (.s (.mv (.t 3))))⟩, (.mk 0 [])), (⟨8, (.some 22), .none, (.o (.s (.mv (.t 0))))⟩,
    (.mk 0 [])), (⟨9, (.some 23), .none, (.o (.s (.mv (.t 2))))⟩, (.mk 0 [])), (⟨6, (.some 20), .none, (.o (.s (.ia 1 (.t 18) (.t 19))))⟩, (.mk 1 [])), (⟨7, (.some 21),
    .none, (.o (.s (.load .none (.t 20))))⟩, (.mk 1 [])), (⟨10, (.some 24), .none, (.o (.s (.ia 1 (.t 22) (.t 23))))⟩, (.mk 1 [])), (⟨11, (.some 25), .none,
    (.o (.s (.load .none (.t 24))))⟩, (.mk 1 [])), (⟨12, (.some 26), .none, (.o (.s (.ia 1 (.t 14) (.t 15))))⟩, (.mk 1 [])), (⟨13, .none, .none, (.o (.s (.store 1 (.t 26)
    (.t 21))))⟩, (.mk 2 [])), (⟨14, (.some 27), .none, (.o (.s (.ia 1 (.t 16) (.t 17))))⟩, (.mk 1 [])), (⟨15, .none, .none, (.o (.s (.store 1 (.t 27) (.t 25))))⟩,
    (.mk 2 []))])) (.ops 6 [⟨0, (.some 10), .none, (.o (.s (.mv (.t 2))))⟩, ⟨1, (.some 11), .none, (.o (.s (.bin .add (.t 10) (.k (.int .i64 (1))))))⟩, ⟨2, (.some 12),
    .none, (.o (.s (.mv (.t 3))))⟩, ⟨3, (.some 13), .none, (.o (.s (.bin .sub (.t 12) (.k (.int .i64 (1))))))⟩, ⟨4, (.some 2), .none, (.o (.s (.mv (.t 11))))⟩, ⟨5,
    (.some 3), .none, (.o (.s (.mv (.t 13))))⟩])))
theorem F26l0w : F26l0.wf = true := by kernel_rfl
def F26s : S2 :=
  (.seq (.ops 5 [⟨0, (.some 4), .none, (.o (.s (.mv (.t 0))))⟩, ⟨1, (.some 5), .none, (.o (.s (.len (.t 4))))⟩, ⟨2, (.some 6), .none, (.o (.s (.bin .sub (.t 5)
    (.k (.int .i64 (1))))))⟩, ⟨3, (.some 2), .none, (.o (.s (.mv (.k (.int .i64 (0))))))⟩, ⟨4, (.some 3), .none, (.o (.s (.mv (.t 6))))⟩]) (.block 0 (.loop F26l0)))
noncomputable def F26b : Go.Code := Go.Proofs.Try.f26.body.getD .skip
theorem F26c : comp C [] F26b = some F26s.er := by kernel_rfl
theorem F26w : F26s.wf = true := by kernel_rfl
theorem F26d : Go.Proofs.Try.f26.body = some F26b := by kernel_rfl
@[simp] def F26q : List RV2 := []
theorem F26r : compRVs C Go.Proofs.Try.f26.results.toList = some (F26q.map RV2.er) := by kernel_rfl
theorem F26e : Enters Go.Proofs.Try.prog 26 := enters_of Go.Proofs.Try.func26 (by kernel_rfl) (by kernel_rfl)

end Go.Proofs.Ytbmkgpocnkiibaa.Lt
