/- The light code of this seat's functions, locals by name (written by light2.py of the prover's own tools). -/
import Derived.Test.YtinfmkmebemhcaaChecked
import Derived.Test.YtinfmkmebemhcaaB3
import Derived.KernelRfl
namespace Go.Proofs.Ytinfmkmebemhcaa.Lt
open Go.Proofs.YtinfmkmebemhcaaW.Abs
set_option linter.unusedVariables false
set_option maxRecDepth 100000

noncomputable abbrev C : Ctx := ctxOf Go.Proofs.Try.prog []
theorem cok : C.Ok Go.Proofs.Try.prog := ctxOf_ok (by kernel_rfl) (fun f hf => by cases hf)

/-- scarf/scarflaw16.MyersLong -- 0: grows t9 t24 t26 t57; 1: grows t10 t27 t29 t62 -/
def F3s : S2 :=
  (.seq (.ops 1 [⟨0, (.some 6), .none, (.o (.s (.mv (.k (.bool .false)))))⟩]) (.seq (.ops 6 [⟨0, (.some 13), .none, (.o (.s (.mv (.t 2))))⟩, ⟨1, (.some 14), .none,
    (.o (.s (.cvi .u64 (.t 13))))⟩, ⟨2, (.some 15), .none, (.o (.s (.bin .rem (.t 14) (.k (.int .u64 (9))))))⟩, ⟨3, (.some 16), .none, (.o (.s (.cvi .i64 (.t 15))))⟩, ⟨4,
    (.some 17), .none, (.o (.s (.bin .add (.k (.int .i64 (1))) (.t 16))))⟩, ⟨5, (.some 2), .none, (.o (.s (.mv (.t 17))))⟩]) (.seq (.ops 8 [⟨0, (.some 18), .none,
    (.o (.s (.mv (.t 0))))⟩, ⟨1, (.some 19), .none, (.o (.s (.mv (.t 2))))⟩, ⟨2, (.some 20), .none, (.o (.call 9 [(.t 18), (.t 19)]))⟩, ⟨3, (.some 21), .none,
    (.o (.s (.mv (.t 1))))⟩, ⟨4, (.some 22), .none, (.o (.s (.mv (.t 2))))⟩, ⟨5, (.some 23), .none, (.o (.call 9 [(.t 21), (.t 22)]))⟩, ⟨6, (.some 7), .none,
    (.o (.s (.mv (.t 20))))⟩, ⟨7, (.some 8), .none, (.o (.s (.mv (.t 23))))⟩]) (.seq (.ops 8 [⟨0, (.some 24), .none, (.lbsl 0 3 1 0 [(.int .i64 (0))] [] .false)⟩, ⟨1,
    (.some 25), .none, (.o (.s (.mv (.t 7))))⟩, ⟨2, (.some 26), .none, (.lapp 0 3 1 8 (.t 24) (.t 25))⟩, ⟨3, (.some 27), .none, (.lbsl 1 3 1 0 [(.int .i64 (0))] []
    .false)⟩, ⟨4, (.some 28), .none, (.o (.s (.mv (.t 8))))⟩, ⟨5, (.some 29), .none, (.lapp 1 3 1 8 (.t 27) (.t 28))⟩, ⟨6, (.some 9), .none, (.o (.s (.mv (.t 26))))⟩, ⟨7,
    (.some 10), .none, (.o (.s (.mv (.t 29))))⟩]) (.seq (.ops 8 [⟨0, (.some 31), .none, (.o (.s (.mv (.t 7))))⟩, ⟨1, (.some 32), .none, (.o (.s (.mv (.t 8))))⟩, ⟨2,
    (.some 33), .none, (.o (.call 10 [(.t 31), (.t 32)]))⟩, ⟨3, (.some 30), .none, (.o (.s (.mv (.t 33))))⟩, ⟨4, (.some 34), .none, (.o (.s (.ext (.t 30) 0)))⟩, ⟨5,
    (.some 35), .none, (.o (.s (.ext (.t 30) 1)))⟩, ⟨6, (.some 11), .none, (.o (.s (.mv (.t 34))))⟩, ⟨7, (.some 12), .none, (.o (.s (.mv (.t 35))))⟩]) (.seq (.ops 30 [⟨0,
    (.some 36), .none, (.o (.call 11 []))⟩, ⟨1, (.some 37), .none, (.o (.s (.mv (.t 36))))⟩, ⟨2, (.some 38), (.some (37, .true)), (.o (.s (.mv (.t 12))))⟩, ⟨3, (.some 39),
    (.some (37, .true)), (.o (.s (.bin .eql (.t 38) (.k (.int .i64 (0))))))⟩, ⟨4, (.some 40), .none, (.o (.s (.pick (.t 37) (.t 39) (.k (.bool .false)))))⟩, ⟨5,
    (.some 41), .none, (.o (.s (.mv (.t 40))))⟩, ⟨6, (.some 42), (.some (41, .true)), (.o (.s (.mv (.t 7))))⟩, ⟨7, (.some 43), (.some (41, .true)),
    (.o (.s (.mv (.t 8))))⟩, ⟨8, (.some 44), (.some (41, .true)), (.o (.s (.mv (.t 11))))⟩, ⟨9, (.some 45), (.some (41, .true)), (.o (.call 12 [(.t 42), (.t 43),
    (.t 44)]))⟩, ⟨10, (.some 46), .none, (.o (.s (.pick (.t 41) (.t 45) (.k (.bool .false)))))⟩, ⟨11, (.some 47), .none, (.o (.s (.mv (.t 46))))⟩, ⟨12, (.some 48),
    (.some (47, .true)), (.o (.s (.mv (.t 11))))⟩, ⟨13, (.some 49), (.some (47, .true)), (.o (.s (.len (.t 48))))⟩, ⟨14, (.some 50), (.some (47, .true)),
    (.o (.s (.mv (.t 7))))⟩, ⟨15, (.some 51), (.some (47, .true)), (.o (.s (.mv (.t 8))))⟩, ⟨16, (.some 52), (.some (47, .true)), (.o (.call 13 [(.t 50), (.t 51)]))⟩, ⟨17,
    (.some 53), (.some (47, .true)), (.o (.s (.bin .eql (.t 49) (.t 52))))⟩, ⟨18, (.some 54), .none, (.o (.s (.pick (.t 47) (.t 53) (.k (.bool .false)))))⟩, ⟨19,
    (.some 55), .none, (.o (.s (.mv (.t 54))))⟩, ⟨20, (.some 56), (.some (55, .true)), (.o (.s (.mv (.t 7))))⟩, ⟨21, (.some 57), (.some (55, .true)),
    (.o (.s (.mv (.t 9))))⟩, ⟨22, (.some 58), (.some (55, .true)), (.o (.call 14 [(.t 56), (.t 57)]))⟩, ⟨23, (.some 59), .none, (.o (.s (.pick (.t 55) (.t 58)
    (.k (.bool .false)))))⟩, ⟨24, (.some 60), .none, (.o (.s (.mv (.t 59))))⟩, ⟨25, (.some 61), (.some (60, .true)), (.o (.s (.mv (.t 8))))⟩, ⟨26, (.some 62), (.some (60,
    .true)), (.o (.s (.mv (.t 10))))⟩, ⟨27, (.some 63), (.some (60, .true)), (.o (.call 14 [(.t 61), (.t 62)]))⟩, ⟨28, (.some 64), .none, (.o (.s (.pick (.t 60) (.t 63)
    (.k (.bool .false)))))⟩, ⟨29, (.some 6), .none, (.o (.s (.mv (.t 64))))⟩]) .ret))))))
noncomputable def F3b : Go.Code := Go.Proofs.Try.f3.body.getD .skip
theorem F3c : comp C [] F3b = some F3s.er := by kernel_rfl
theorem F3w : F3s.wf = true := by kernel_rfl
theorem F3d : Go.Proofs.Try.f3.body = some F3b := by kernel_rfl
@[simp] def F3q : List RV2 := [(.o (.tmp 6))]
theorem F3r : compRVs C Go.Proofs.Try.f3.results.toList = some (F3q.map RV2.er) := by kernel_rfl
theorem F3e : Enters Go.Proofs.Try.prog 3 := enters_of Go.Proofs.Try.func3 (by kernel_rfl) (by kernel_rfl)

/-- scarf/scarflaw16.MyersEnds -- 0: grows t11 t21 t23 t26 t28 t38 t50 t60 t86 t101 t102 t132; 1: grows t12 t29 t31 t34 t36 t39 t55 t64 t93 t108 t109 t136 -/
def F4l0 : S2 :=
  (.seq (.seq (.dops 31 [(⟨0, (.some 86), .none, (.o (.s (.mv (.t 11))))⟩, (.mk 0 [])), (⟨1, (.some 87), .none, (.o (.s (.len (.t 86))))⟩, (.mk 0 [])), (⟨2, (.some 88),
    .none, (.o (.s (.mv (.t 16))))⟩, (.mk 0 [])), (⟨3, (.some 89), .none, (.o (.s (.bin .sub (.t 87) (.t 88))))⟩, (.mk 0 [])), (⟨4, (.some 90), .none,
    (.o (.s (.mv (.t 15))))⟩, (.mk 0 [])), (⟨5, (.some 91), .none, (.o (.s (.bin .geq (.t 89) (.t 90))))⟩, (.mk 0 [])), (⟨6, (.some 92), .none, (.o (.s (.mv (.t 91))))⟩,
    (.mk 0 [])), (⟨7, (.some 93), (.some (92, .true)), (.o (.s (.mv (.t 12))))⟩, (.mk 0 [])), (⟨8, (.some 94), (.some (92, .true)), (.o (.s (.len (.t 93))))⟩, (.mk 0 [])),
    (⟨9, (.some 95), (.some (92, .true)), (.o (.s (.mv (.t 16))))⟩, (.mk 0 [])), (⟨10, (.some 96), (.some (92, .true)), (.o (.s (.bin .sub (.t 94) (.t 95))))⟩,
    (.mk 0 [])), (⟨11, (.some 97), (.some (92, .true)), (.o (.s (.mv (.t 15))))⟩, (.mk 0 [])), (⟨12, (.some 98), (.some (92, .true)), (.o (.s (.bin .geq (.t 96)
    (.t 97))))⟩, (.mk 0 [])), (⟨13, (.some 99), .none, (.o (.s (.pick (.t 92) (.t 98) (.k (.bool .false)))))⟩, (.mk 0 [])), (⟨14, (.some 100), .none,
    (.o (.s (.mv (.t 99))))⟩, (.mk 0 [])), (⟨15, (.some 101), (.some (100, .true)), (.o (.s (.mv (.t 11))))⟩, (.mk 0 [])), (⟨16, (.some 102), (.some (100, .true)),
    (.o (.s (.mv (.t 11))))⟩, (.mk 0 [])), (⟨17, (.some 103), (.some (100, .true)), (.o (.s (.len (.t 102))))⟩, (.mk 0 [])), (⟨18, (.some 104), (.some (100, .true)),
    (.o (.s (.mv (.t 16))))⟩, (.mk 0 [])), (⟨19, (.some 105), (.some (100, .true)), (.o (.s (.bin .sub (.t 103) (.t 104))))⟩, (.mk 0 [])), (⟨22, (.some 108), (.some (100,
    .true)), (.o (.s (.mv (.t 12))))⟩, (.mk 0 [])), (⟨23, (.some 109), (.some (100, .true)), (.o (.s (.mv (.t 12))))⟩, (.mk 0 [])), (⟨24, (.some 110), (.some (100,
    .true)), (.o (.s (.len (.t 109))))⟩, (.mk 0 [])), (⟨25, (.some 111), (.some (100, .true)), (.o (.s (.mv (.t 16))))⟩, (.mk 0 [])), (⟨26, (.some 112), (.some (100,
    .true)), (.o (.s (.bin .sub (.t 110) (.t 111))))⟩, (.mk 0 [])), (⟨20, (.some 106), (.some (100, .true)), (.o (.s (.ia 1 (.t 101) (.t 105))))⟩, (.mk 1 [])), (⟨21,
    (.some 107), (.some (100, .true)), (.o (.s (.load .none (.t 106))))⟩, (.mk 1 [])), (⟨27, (.some 113), (.some (100, .true)), (.o (.s (.ia 1 (.t 108) (.t 112))))⟩,
    (.mk 1 [])), (⟨28, (.some 114), (.some (100, .true)), (.o (.s (.load .none (.t 113))))⟩, (.mk 1 [])), (⟨29, (.some 115), (.some (100, .true)),
    (.o (.s (.bin .eql (.t 107) (.t 114))))⟩, (.mk 0 [])), (⟨30, (.some 116), .none, (.o (.s (.pick (.t 100) (.t 115) (.k (.bool .false)))))⟩, (.mk 0 []))])
    (.cond (.t 116) .skip (.exit 2))) (.seq (.block 3 (.seq (.ops 24 [⟨0, (.some 119), .none, (.o (.s (.mv (.t 13))))⟩, ⟨1, (.some 120), .none, (.o (.s (.len (.t 119))))⟩,
    ⟨2, (.some 121), .none, (.o (.s (.mv (.t 16))))⟩, ⟨3, (.some 122), .none, (.o (.s (.bin .sub (.t 120) (.t 121))))⟩, ⟨4, (.some 123), .none, (.o (.s (.bin .lss (.t 122)
    (.k (.int .i64 (0))))))⟩, ⟨5, (.some 124), .none, (.o (.s (.mv (.t 123))))⟩, ⟨6, (.some 125), (.some (124, .false)), (.o (.s (.mv (.t 13))))⟩, ⟨7, (.some 126),
    (.some (124, .false)), (.o (.s (.mv (.t 13))))⟩, ⟨8, (.some 127), (.some (124, .false)), (.o (.s (.len (.t 126))))⟩, ⟨9, (.some 128), (.some (124, .false)),
    (.o (.s (.mv (.t 16))))⟩, ⟨10, (.some 129), (.some (124, .false)), (.o (.s (.bin .sub (.t 127) (.t 128))))⟩, ⟨11, (.some 130), (.some (124, .false)),
    (.o (.s (.ia 2 (.t 125) (.t 129))))⟩, ⟨12, (.some 131), (.some (124, .false)), (.o (.s (.load (.some 2) (.t 130))))⟩, ⟨13, (.some 132), (.some (124, .false)),
    (.o (.s (.mv (.t 11))))⟩, ⟨14, (.some 133), (.some (124, .false)), (.o (.s (.len (.t 132))))⟩, ⟨15, (.some 134), (.some (124, .false)), (.o (.s (.mv (.t 16))))⟩, ⟨16,
    (.some 135), (.some (124, .false)), (.o (.s (.bin .sub (.t 133) (.t 134))))⟩, ⟨17, (.some 136), (.some (124, .false)), (.o (.s (.mv (.t 12))))⟩, ⟨18, (.some 137),
    (.some (124, .false)), (.o (.s (.len (.t 136))))⟩, ⟨19, (.some 138), (.some (124, .false)), (.o (.s (.mv (.t 16))))⟩, ⟨20, (.some 139), (.some (124, .false)),
    (.o (.s (.bin .sub (.t 137) (.t 138))))⟩, ⟨21, (.some 140), (.some (124, .false)), (.o (.s (.build [(.int .i64 (0)), (.int .i64 (0))] [(0, (1, (.t 135))), (1, (1,
    (.t 139)))])))⟩, ⟨22, (.some 141), (.some (124, .false)), (.o (.s (.eqs (.agg [.int, .int]) .true (.t 131) (.t 140))))⟩, ⟨23, (.some 142), .none,
    (.o (.s (.pick (.t 124) (.k (.bool .true)) (.t 141))))⟩]) (.cond (.t 142) (.seq (.ops 1 [⟨0, (.some 8), .none, (.o (.s (.mv (.k (.bool .false)))))⟩]) .ret) .skip)))
    (.ops 3 [⟨0, (.some 117), .none, (.o (.s (.mv (.t 16))))⟩, ⟨1, (.some 118), .none, (.o (.s (.bin .add (.t 117) (.k (.int .i64 (1))))))⟩, ⟨2, (.some 16), .none,
    (.o (.s (.mv (.t 118))))⟩])))
theorem F4l0w : F4l0.wf = true := by kernel_rfl
def F4l1 : S2 :=
  (.seq (.seq (.dops 21 [(⟨0, (.some 49), .none, (.o (.s (.mv (.t 15))))⟩, (.mk 0 [])), (⟨1, (.some 50), .none, (.o (.s (.mv (.t 11))))⟩, (.mk 0 [])), (⟨2, (.some 51),
    .none, (.o (.s (.len (.t 50))))⟩, (.mk 0 [])), (⟨3, (.some 52), .none, (.o (.s (.bin .lss (.t 49) (.t 51))))⟩, (.mk 0 [])), (⟨4, (.some 53), .none,
    (.o (.s (.mv (.t 52))))⟩, (.mk 0 [])), (⟨5, (.some 54), (.some (53, .true)), (.o (.s (.mv (.t 15))))⟩, (.mk 0 [])), (⟨6, (.some 55), (.some (53, .true)),
    (.o (.s (.mv (.t 12))))⟩, (.mk 0 [])), (⟨7, (.some 56), (.some (53, .true)), (.o (.s (.len (.t 55))))⟩, (.mk 0 [])), (⟨8, (.some 57), (.some (53, .true)),
    (.o (.s (.bin .lss (.t 54) (.t 56))))⟩, (.mk 0 [])), (⟨9, (.some 58), .none, (.o (.s (.pick (.t 53) (.t 57) (.k (.bool .false)))))⟩, (.mk 0 [])), (⟨10, (.some 59),
    .none, (.o (.s (.mv (.t 58))))⟩, (.mk 0 [])), (⟨11, (.some 60), (.some (59, .true)), (.o (.s (.mv (.t 11))))⟩, (.mk 0 [])), (⟨12, (.some 61), (.some (59, .true)),
    (.o (.s (.mv (.t 15))))⟩, (.mk 0 [])), (⟨15, (.some 64), (.some (59, .true)), (.o (.s (.mv (.t 12))))⟩, (.mk 0 [])), (⟨16, (.some 65), (.some (59, .true)),
    (.o (.s (.mv (.t 15))))⟩, (.mk 0 [])), (⟨13, (.some 62), (.some (59, .true)), (.o (.s (.ia 1 (.t 60) (.t 61))))⟩, (.mk 1 [])), (⟨14, (.some 63), (.some (59, .true)),
    (.o (.s (.load .none (.t 62))))⟩, (.mk 1 [])), (⟨17, (.some 66), (.some (59, .true)), (.o (.s (.ia 1 (.t 64) (.t 65))))⟩, (.mk 1 [])), (⟨18, (.some 67), (.some (59,
    .true)), (.o (.s (.load .none (.t 66))))⟩, (.mk 1 [])), (⟨19, (.some 68), (.some (59, .true)), (.o (.s (.bin .eql (.t 63) (.t 67))))⟩, (.mk 0 [])), (⟨20, (.some 69),
    .none, (.o (.s (.pick (.t 59) (.t 68) (.k (.bool .false)))))⟩, (.mk 0 []))]) (.cond (.t 69) .skip (.exit 0))) (.block 1 (.seq (.seq (.ops 14 [⟨0, (.some 70), .none,
    (.o (.s (.mv (.t 15))))⟩, ⟨1, (.some 71), .none, (.o (.s (.mv (.t 13))))⟩, ⟨2, (.some 72), .none, (.o (.s (.len (.t 71))))⟩, ⟨3, (.some 73), .none,
    (.o (.s (.bin .geq (.t 70) (.t 72))))⟩, ⟨4, (.some 74), .none, (.o (.s (.mv (.t 73))))⟩, ⟨5, (.some 75), (.some (74, .false)), (.o (.s (.mv (.t 13))))⟩, ⟨6,
    (.some 76), (.some (74, .false)), (.o (.s (.mv (.t 15))))⟩, ⟨7, (.some 77), (.some (74, .false)), (.o (.s (.ia 2 (.t 75) (.t 76))))⟩, ⟨8, (.some 78), (.some (74,
    .false)), (.o (.s (.load (.some 2) (.t 77))))⟩, ⟨9, (.some 79), (.some (74, .false)), (.o (.s (.mv (.t 15))))⟩, ⟨10, (.some 80), (.some (74, .false)),
    (.o (.s (.mv (.t 15))))⟩, ⟨11, (.some 81), (.some (74, .false)), (.o (.s (.build [(.int .i64 (0)), (.int .i64 (0))] [(0, (1, (.t 79))), (1, (1, (.t 80)))])))⟩, ⟨12,
    (.some 82), (.some (74, .false)), (.o (.s (.eqs (.agg [.int, .int]) .true (.t 78) (.t 81))))⟩, ⟨13, (.some 83), .none, (.o (.s (.pick (.t 74) (.k (.bool .true))
    (.t 82))))⟩]) (.cond (.t 83) (.seq (.ops 1 [⟨0, (.some 8), .none, (.o (.s (.mv (.k (.bool .false)))))⟩]) .ret) .skip)) (.ops 3 [⟨0, (.some 84), .none,
    (.o (.s (.mv (.t 15))))⟩, ⟨1, (.some 85), .none, (.o (.s (.bin .add (.t 84) (.k (.int .i64 (1))))))⟩, ⟨2, (.some 15), .none, (.o (.s (.mv (.t 85))))⟩]))))
theorem F4l1w : F4l1.wf = true := by kernel_rfl
def F4s : S2 :=
  (.seq (.ops 1 [⟨0, (.some 8), .none, (.o (.s (.mv (.k (.bool .false)))))⟩]) (.seq (.ops 6 [⟨0, (.some 17), .none, (.o (.s (.mv (.t 0))))⟩, ⟨1, (.some 18), .none,
    (.o (.call 9 [(.t 17), (.k (.int .i64 (5)))]))⟩, ⟨2, (.some 19), .none, (.o (.s (.mv (.t 3))))⟩, ⟨3, (.some 20), .none, (.o (.call 9 [(.t 19),
    (.k (.int .i64 (5)))]))⟩, ⟨4, (.some 9), .none, (.o (.s (.mv (.t 18))))⟩, ⟨5, (.some 10), .none, (.o (.s (.mv (.t 20))))⟩]) (.seq (.ops 9 [⟨0, (.some 21), .none,
    (.lbsl 0 3 1 0 [(.int .i64 (0))] [] .false)⟩, ⟨1, (.some 22), .none, (.o (.s (.mv (.t 9))))⟩, ⟨2, (.some 23), .none, (.lapp 0 3 1 8 (.t 21) (.t 22))⟩, ⟨3, (.some 24),
    .none, (.o (.s (.mv (.t 1))))⟩, ⟨4, (.some 25), .none, (.o (.call 9 [(.t 24), (.k (.int .i64 (5)))]))⟩, ⟨5, (.some 26), .none, (.lapp 0 3 1 8 (.t 23) (.t 25))⟩, ⟨6,
    (.some 27), .none, (.o (.s (.mv (.t 10))))⟩, ⟨7, (.some 28), .none, (.lapp 0 3 1 8 (.t 26) (.t 27))⟩, ⟨8, (.some 11), .none, (.o (.s (.mv (.t 28))))⟩])
    (.seq (.ops 9 [⟨0, (.some 29), .none, (.lbsl 1 3 1 0 [(.int .i64 (0))] [] .false)⟩, ⟨1, (.some 30), .none, (.o (.s (.mv (.t 9))))⟩, ⟨2, (.some 31), .none,
    (.lapp 1 3 1 8 (.t 29) (.t 30))⟩, ⟨3, (.some 32), .none, (.o (.s (.mv (.t 2))))⟩, ⟨4, (.some 33), .none, (.o (.call 9 [(.t 32), (.k (.int .i64 (5)))]))⟩, ⟨5,
    (.some 34), .none, (.lapp 1 3 1 8 (.t 31) (.t 33))⟩, ⟨6, (.some 35), .none, (.o (.s (.mv (.t 10))))⟩, ⟨7, (.some 36), .none, (.lapp 1 3 1 8 (.t 34) (.t 35))⟩, ⟨8,
    (.some 12), .none, (.o (.s (.mv (.t 36))))⟩]) (.seq (.ops 8 [⟨0, (.some 38), .none, (.o (.s (.mv (.t 11))))⟩, ⟨1, (.some 39), .none, (.o (.s (.mv (.t 12))))⟩, ⟨2,
    (.some 40), .none, (.o (.call 10 [(.t 38), (.t 39)]))⟩, ⟨3, (.some 37), .none, (.o (.s (.mv (.t 40))))⟩, ⟨4, (.some 41), .none, (.o (.s (.ext (.t 37) 0)))⟩, ⟨5,
    (.some 42), .none, (.o (.s (.ext (.t 37) 1)))⟩, ⟨6, (.some 13), .none, (.o (.s (.mv (.t 41))))⟩, ⟨7, (.some 14), .none, (.o (.s (.mv (.t 42))))⟩])
    (.seq (.seq (.ops 6 [⟨0, (.some 43), .none, (.o (.call 11 []))⟩, ⟨1, (.some 44), .none, (.o (.s (.un .not (.t 43))))⟩, ⟨2, (.some 45), .none, (.o (.s (.mv (.t 44))))⟩,
    ⟨3, (.some 46), (.some (45, .false)), (.o (.s (.mv (.t 14))))⟩, ⟨4, (.some 47), (.some (45, .false)), (.o (.s (.bin .neq (.t 46) (.k (.int .i64 (0))))))⟩, ⟨5,
    (.some 48), .none, (.o (.s (.pick (.t 45) (.k (.bool .true)) (.t 47))))⟩]) (.cond (.t 48) (.seq (.ops 1 [⟨0, (.some 8), .none, (.o (.s (.mv (.k (.bool .false)))))⟩])
    .ret) .skip)) (.seq (.ops 1 [⟨0, (.some 15), .none, (.o (.s (.mv (.k (.int .i64 (0))))))⟩]) (.seq (.block 0 (.loop F4l1)) (.seq (.seq (.ops 1 [⟨0, (.some 16), .none,
    (.o (.s (.mv (.k (.int .i64 (1))))))⟩]) (.block 2 (.loop F4l0))) (.seq (.ops 1 [⟨0, (.some 8), .none, (.o (.s (.mv (.k (.bool .true)))))⟩]) .ret))))))))))
noncomputable def F4b : Go.Code := Go.Proofs.Try.f4.body.getD .skip
theorem F4c : comp C [] F4b = some F4s.er := by kernel_rfl
theorem F4w : F4s.wf = true := by kernel_rfl
theorem F4d : Go.Proofs.Try.f4.body = some F4b := by kernel_rfl
@[simp] def F4q : List RV2 := [(.o (.tmp 8))]
theorem F4r : compRVs C Go.Proofs.Try.f4.results.toList = some (F4q.map RV2.er) := by kernel_rfl
theorem F4e : Enters Go.Proofs.Try.prog 4 := enters_of Go.Proofs.Try.func4 (by kernel_rfl) (by kernel_rfl)

/-- scarf/scarflaw16.MyersRight --  -/
def F5s : S2 :=
  (.seq (.ops 1 [⟨0, (.some 6), .none, (.o (.s (.mv (.k (.bool .false)))))⟩]) (.seq (.seq (.ops 3 [⟨0, (.some 9), .none, (.o (.s (.mv (.t 2))))⟩, ⟨1, (.some 10), .none,
    (.o (.s (.len (.t 9))))⟩, ⟨2, (.some 11), .none, (.o (.s (.bin .gtr (.t 10) (.k (.int .i64 (300))))))⟩]) (.cond (.t 11) (.ops 3 [⟨0, (.some 12), .none,
    (.o (.s (.mv (.t 2))))⟩, ⟨1, (.some 13), .none, (.o (.s (.sub 2 (.t 12) .none (.some (.k (.int .i64 (300)))))))⟩, ⟨2, (.some 2), .none, (.o (.s (.mv (.t 13))))⟩])
    .skip)) (.seq (.ops 6 [⟨0, (.some 14), .none, (.o (.s (.mv (.t 0))))⟩, ⟨1, (.some 15), .none, (.o (.call 9 [(.t 14), (.k (.int .i64 (3)))]))⟩, ⟨2, (.some 16), .none,
    (.o (.s (.mv (.t 1))))⟩, ⟨3, (.some 17), .none, (.o (.call 9 [(.t 16), (.k (.int .i64 (3)))]))⟩, ⟨4, (.some 7), .none, (.o (.s (.mv (.t 15))))⟩, ⟨5, (.some 8), .none,
    (.o (.s (.mv (.t 17))))⟩]) (.seq (.ops 13 [⟨0, (.some 18), .none, (.o (.call 11 []))⟩, ⟨1, (.some 19), .none, (.o (.s (.mv (.t 18))))⟩, ⟨2, (.some 20), (.some (19,
    .true)), (.o (.s (.mv (.t 7))))⟩, ⟨3, (.some 21), (.some (19, .true)), (.o (.s (.mv (.t 8))))⟩, ⟨4, (.some 22), (.some (19, .true)), (.o (.s (.mv (.t 2))))⟩, ⟨5,
    (.some 23), (.some (19, .true)), (.o (.call 15 [(.t 20), (.t 21), (.t 22)]))⟩, ⟨6, (.some 24), (.some (19, .true)), (.o (.s (.mv (.t 7))))⟩, ⟨7, (.some 25),
    (.some (19, .true)), (.o (.s (.mv (.t 8))))⟩, ⟨8, (.some 26), (.some (19, .true)), (.o (.s (.mv (.t 2))))⟩, ⟨9, (.some 27), (.some (19, .true)),
    (.o (.call 12 [(.t 24), (.t 25), (.t 26)]))⟩, ⟨10, (.some 28), (.some (19, .true)), (.o (.s (.eqs .bool .false (.t 23) (.t 27))))⟩, ⟨11, (.some 29), .none,
    (.o (.s (.pick (.t 19) (.t 28) (.k (.bool .false)))))⟩, ⟨12, (.some 6), .none, (.o (.s (.mv (.t 29))))⟩]) .ret))))
noncomputable def F5b : Go.Code := Go.Proofs.Try.f5.body.getD .skip
theorem F5c : comp C [] F5b = some F5s.er := by kernel_rfl
theorem F5w : F5s.wf = true := by kernel_rfl
theorem F5d : Go.Proofs.Try.f5.body = some F5b := by kernel_rfl
@[simp] def F5q : List RV2 := [(.o (.tmp 6))]
theorem F5r : compRVs C Go.Proofs.Try.f5.results.toList = some (F5q.map RV2.er) := by kernel_rfl
theorem F5e : Enters Go.Proofs.Try.prog 5 := enters_of Go.Proofs.Try.func5 (by kernel_rfl) (by kernel_rfl)

/-- scarf/scarflaw16.MyersNumbers -- 0: grows t3 t56 t59 t60 t62; 1: grows t6 t34 t53 t57 -/
def F6l0 : S2 :=
  (.seq (.seq (.ops 4 [⟨0, (.some 73), .none, (.o (.s (.mv (.t 10))))⟩, ⟨1, (.some 74), .none, (.o (.s (.mv (.t 8))))⟩, ⟨2, (.some 75), .none, (.o (.s (.len (.t 74))))⟩, ⟨3,
    (.some 76), .none, (.o (.s (.bin .lss (.t 73) (.t 75))))⟩]) (.cond (.t 76) .skip (.exit 4))) (.seq (.block 5 (.seq (.dops 10 [(⟨0, (.some 79), .none,
    (.o (.s (.mv (.t 8))))⟩, (.mk 0 [])), (⟨1, (.some 80), .none, (.o (.s (.mv (.t 10))))⟩, (.mk 0 [])), (⟨4, (.some 83), .none, (.o (.s (.mv (.t 9))))⟩, (.mk 0 [])), (⟨5,
    (.some 84), .none, (.o (.s (.mv (.t 10))))⟩, (.mk 0 [])), (⟨2, (.some 81), .none, (.o (.s (.ia 1 (.t 79) (.t 80))))⟩, (.mk 1 [])), (⟨3, (.some 82), .none,
    (.o (.s (.load .none (.t 81))))⟩, (.mk 1 [])), (⟨6, (.some 85), .none, (.o (.s (.ia 1 (.t 83) (.t 84))))⟩, (.mk 1 [])), (⟨7, (.some 86), .none,
    (.o (.s (.load .none (.t 85))))⟩, (.mk 1 [])), (⟨8, (.some 87), .none, (.o (.call 14 [(.t 82), (.t 86)]))⟩, (.mk 0 [])), (⟨9, (.some 88), .none,
    (.o (.s (.un .not (.t 87))))⟩, (.mk 0 []))]) (.cond (.t 88) (.seq (.ops 1 [⟨0, (.some 2), .none, (.o (.s (.mv (.k (.bool .false)))))⟩]) .ret) .skip))) (.ops 3 [⟨0,
    (.some 77), .none, (.o (.s (.mv (.t 10))))⟩, ⟨1, (.some 78), .none, (.o (.s (.bin .add (.t 77) (.k (.int .i64 (1))))))⟩, ⟨2, (.some 10), .none,
    (.o (.s (.mv (.t 78))))⟩])))
theorem F6l0w : F6l0.wf = true := by kernel_rfl
def F6l1 : S2 :=
  (.seq (.seq (.ops 11 [⟨0, (.some 21), .none, (.o (.s (.mv (.t 7))))⟩, ⟨1, (.some 22), .none, (.o (.s (.mv (.t 0))))⟩, ⟨2, (.some 23), .none, (.o (.s (.mv (.t 5))))⟩, ⟨3,
    (.some 24), .none, (.o (.s (.ia 1 (.t 22) (.t 23))))⟩, ⟨4, (.some 25), .none, (.o (.s (.load .none (.t 24))))⟩, ⟨5, (.some 26), .none, (.o (.s (.len (.t 25))))⟩, ⟨6,
    (.some 27), .none, (.o (.s (.bin .lss (.t 21) (.t 26))))⟩, ⟨7, (.some 28), .none, (.o (.s (.mv (.t 27))))⟩, ⟨8, (.some 29), (.some (28, .true)),
    (.o (.s (.mv (.t 4))))⟩, ⟨9, (.some 30), (.some (28, .true)), (.o (.s (.bin .lss (.t 29) (.k (.int .i64 (100))))))⟩, ⟨10, (.some 31), .none, (.o (.s (.pick (.t 28)
    (.t 30) (.k (.bool .false)))))⟩]) (.cond (.t 31) .skip (.exit 2))) (.seq (.block 3 (.seq (.dops 21 [(⟨0, (.some 34), .none, (.o (.s (.mv (.t 6))))⟩, (.mk 0 [])), (⟨1,
    (.some 35), .none, (.o (.s (.mv (.t 0))))⟩, (.mk 0 [])), (⟨2, (.some 36), .none, (.o (.s (.mv (.t 5))))⟩, (.mk 0 [])), (⟨5, (.some 39), .none, (.o (.s (.mv (.t 7))))⟩,
    (.mk 0 [])), (⟨8, (.some 42), .none, (.o (.s (.mv (.t 0))))⟩, (.mk 0 [])), (⟨9, (.some 43), .none, (.o (.s (.mv (.t 5))))⟩, (.mk 0 [])), (⟨12, (.some 46), .none,
    (.o (.s (.mv (.t 7))))⟩, (.mk 0 [])), (⟨3, (.some 37), .none, (.o (.s (.ia 1 (.t 35) (.t 36))))⟩, (.mk 1 [])), (⟨4, (.some 38), .none,
    (.o (.s (.load .none (.t 37))))⟩, (.mk 1 [])), (⟨6, (.some 40), .none, (.o (.s (.ia 1 (.t 38) (.t 39))))⟩, (.mk 1 [])), (⟨7, (.some 41), .none,
    (.o (.s (.load .none (.t 40))))⟩, (.mk 1 [])), (⟨10, (.some 44), .none, (.o (.s (.ia 1 (.t 42) (.t 43))))⟩, (.mk 1 [])), (⟨11, (.some 45), .none,
    (.o (.s (.load .none (.t 44))))⟩, (.mk 1 [])), (⟨13, (.some 47), .none, (.o (.s (.ia 1 (.t 45) (.t 46))))⟩, (.mk 1 [])), (⟨14, (.some 48), .none,
    (.o (.s (.load .none (.t 47))))⟩, (.mk 1 [])), (⟨15, (.some 49), .none, (.o (.s (.len (.t 48))))⟩, (.mk 0 [])), (⟨16, (.some 50), .none, (.o (.s (.mn (.t 49)
    (.k (.int .i64 (100))))))⟩, (.mk 0 [])), (⟨17, (.some 51), .none, (.o (.s (.sub 1 (.t 41) .none (.some (.t 50)))))⟩, (.mk 1 [])), (⟨18, (.some 52), .none,
    (.lbsl 2 38 1 1 [.nils] [(0, (.t 51))] .false)⟩, (.mk 0 [18])), (⟨19, (.some 53), .none, (.lapp 1 38 1 24 (.t 34) (.t 52))⟩, (.mk 2 [19])), (⟨20, (.some 6), .none,
    (.o (.s (.mv (.t 53))))⟩, (.mk 0 []))]) (.ops 3 [⟨0, (.some 54), .none, (.o (.s (.mv (.t 4))))⟩, ⟨1, (.some 55), .none, (.o (.s (.bin .add (.t 54)
    (.k (.int .i64 (1))))))⟩, ⟨2, (.some 4), .none, (.o (.s (.mv (.t 55))))⟩]))) (.ops 3 [⟨0, (.some 32), .none, (.o (.s (.mv (.t 7))))⟩, ⟨1, (.some 33), .none,
    (.o (.s (.bin .add (.t 32) (.k (.int .i64 (1))))))⟩, ⟨2, (.some 7), .none, (.o (.s (.mv (.t 33))))⟩])))
theorem F6l1w : F6l1.wf = true := by kernel_rfl
def F6l2 : S2 :=
  (.seq (.seq (.ops 8 [⟨0, (.some 11), .none, (.o (.s (.mv (.t 5))))⟩, ⟨1, (.some 12), .none, (.o (.s (.mv (.t 0))))⟩, ⟨2, (.some 13), .none, (.o (.s (.len (.t 12))))⟩, ⟨3,
    (.some 14), .none, (.o (.s (.bin .lss (.t 11) (.t 13))))⟩, ⟨4, (.some 15), .none, (.o (.s (.mv (.t 14))))⟩, ⟨5, (.some 16), (.some (15, .true)),
    (.o (.s (.mv (.t 5))))⟩, ⟨6, (.some 17), (.some (15, .true)), (.o (.s (.bin .lss (.t 16) (.k (.int .i64 (20))))))⟩, ⟨7, (.some 18), .none, (.o (.s (.pick (.t 15)
    (.t 17) (.k (.bool .false)))))⟩]) (.cond (.t 18) .skip (.exit 0))) (.seq (.block 1 (.seq (.ops 1 [⟨0, (.some 6), .none, (.o (.s (.mv (.k .nils))))⟩])
    (.seq (.seq (.ops 1 [⟨0, (.some 7), .none, (.o (.s (.mv (.k (.int .i64 (0))))))⟩]) (.block 2 (.loop F6l1))) (.ops 5 [⟨0, (.some 56), .none, (.o (.s (.mv (.t 3))))⟩,
    ⟨1, (.some 57), .none, (.o (.s (.mv (.t 6))))⟩, ⟨2, (.some 58), .none, (.lbsl 2 37 1 1 [.nils] [(0, (.t 57))] .false)⟩, ⟨3, (.some 59), .none, (.lapp 0 37 1 24 (.t 56)
    (.t 58))⟩, ⟨4, (.some 3), .none, (.o (.s (.mv (.t 59))))⟩])))) (.ops 3 [⟨0, (.some 19), .none, (.o (.s (.mv (.t 5))))⟩, ⟨1, (.some 20), .none,
    (.o (.s (.bin .add (.t 19) (.k (.int .i64 (1))))))⟩, ⟨2, (.some 5), .none, (.o (.s (.mv (.t 20))))⟩])))
theorem F6l2w : F6l2.wf = true := by kernel_rfl
def F6s : S2 :=
  (.seq (.ops 1 [⟨0, (.some 2), .none, (.o (.s (.mv (.k (.bool .false)))))⟩]) (.seq (.ops 1 [⟨0, (.some 3), .none, (.o (.s (.mv (.k .nils))))⟩]) (.seq (.ops 1 [⟨0,
    (.some 4), .none, (.o (.s (.mv (.k (.int .i64 (0))))))⟩]) (.seq (.seq (.ops 1 [⟨0, (.some 5), .none, (.o (.s (.mv (.k (.int .i64 (0))))))⟩]) (.block 0 (.loop F6l2)))
    (.seq (.ops 6 [⟨0, (.some 60), .none, (.o (.s (.mv (.t 3))))⟩, ⟨1, (.some 61), .none, (.o (.call 16 [(.t 60)]))⟩, ⟨2, (.some 62), .none, (.o (.s (.mv (.t 3))))⟩, ⟨3,
    (.some 63), .none, (.o (.call 17 [(.t 62)]))⟩, ⟨4, (.some 8), .none, (.o (.s (.mv (.t 61))))⟩, ⟨5, (.some 9), .none, (.o (.s (.mv (.t 63))))⟩])
    (.seq (.seq (.ops 9 [⟨0, (.some 64), .none, (.o (.call 11 []))⟩, ⟨1, (.some 65), .none, (.o (.s (.un .not (.t 64))))⟩, ⟨2, (.some 66), .none, (.o (.s (.mv (.t 65))))⟩,
    ⟨3, (.some 67), (.some (66, .false)), (.o (.s (.mv (.t 8))))⟩, ⟨4, (.some 68), (.some (66, .false)), (.o (.s (.len (.t 67))))⟩, ⟨5, (.some 69), (.some (66, .false)),
    (.o (.s (.mv (.t 9))))⟩, ⟨6, (.some 70), (.some (66, .false)), (.o (.s (.len (.t 69))))⟩, ⟨7, (.some 71), (.some (66, .false)), (.o (.s (.bin .neq (.t 68) (.t 70))))⟩,
    ⟨8, (.some 72), .none, (.o (.s (.pick (.t 66) (.k (.bool .true)) (.t 71))))⟩]) (.cond (.t 72) (.seq (.ops 1 [⟨0, (.some 2), .none,
    (.o (.s (.mv (.k (.bool .false)))))⟩]) .ret) .skip)) (.seq (.seq (.ops 1 [⟨0, (.some 10), .none, (.o (.s (.mv (.k (.int .i64 (0))))))⟩]) (.block 4 (.loop F6l0)))
    (.seq (.ops 1 [⟨0, (.some 2), .none, (.o (.s (.mv (.k (.bool .true)))))⟩]) .ret))))))))
noncomputable def F6b : Go.Code := Go.Proofs.Try.f6.body.getD .skip
theorem F6c : comp C [] F6b = some F6s.er := by kernel_rfl
theorem F6w : F6s.wf = true := by kernel_rfl
theorem F6d : Go.Proofs.Try.f6.body = some F6b := by kernel_rfl
@[simp] def F6q : List RV2 := [(.o (.tmp 2))]
theorem F6r : compRVs C Go.Proofs.Try.f6.results.toList = some (F6q.map RV2.er) := by kernel_rfl
theorem F6e : Enters Go.Proofs.Try.prog 6 := enters_of Go.Proofs.Try.func6 (by kernel_rfl) (by kernel_rfl)

/-- scarf/scarflaw16.MyersMany --  -/
def F7l0 : S2 :=
  (.seq (.seq (.ops 3 [⟨0, (.some 22), .none, (.o (.s (.mv (.t 8))))⟩, ⟨1, (.some 23), .none, (.o (.s (.mv (.t 0))))⟩, ⟨2, (.some 24), .none, (.o (.s (.bin .lss (.t 22)
    (.t 23))))⟩]) (.cond (.t 24) .skip (.exit 0))) (.seq (.block 1 (.ops 6 [⟨0, (.some 27), .none, (.o (.s (.mv (.t 7))))⟩, ⟨1, (.some 28), .none, (.o (.s (.mv (.t 8))))⟩,
    ⟨2, (.some 29), .none, (.o (.s (.mv (.t 8))))⟩, ⟨3, (.some 30), .none, (.o (.s (.bin .rem (.t 29) (.k (.int .i64 (7))))))⟩, ⟨4, (.some 31), .none,
    (.o (.s (.ia 1 (.t 27) (.t 28))))⟩, ⟨5, .none, .none, (.o (.s (.store 1 (.t 31) (.t 30))))⟩])) (.ops 3 [⟨0, (.some 25), .none, (.o (.s (.mv (.t 8))))⟩, ⟨1, (.some 26),
    .none, (.o (.s (.bin .add (.t 25) (.k (.int .i64 (1))))))⟩, ⟨2, (.some 8), .none, (.o (.s (.mv (.t 26))))⟩])))
theorem F7l0w : F7l0.wf = true := by kernel_rfl
def F7s : S2 :=
  (.seq (.ops 1 [⟨0, (.some 6), .none, (.o (.s (.mv (.k (.bool .false)))))⟩]) (.seq (.ops 6 [⟨0, (.some 15), .none, (.o (.s (.mv (.t 0))))⟩, ⟨1, (.some 16), .none,
    (.o (.s (.cvi .u64 (.t 15))))⟩, ⟨2, (.some 17), .none, (.o (.s (.bin .rem (.t 16) (.k (.int .u64 (20))))))⟩, ⟨3, (.some 18), .none, (.o (.s (.cvi .i64 (.t 17))))⟩, ⟨4,
    (.some 19), .none, (.o (.s (.bin .add (.k (.int .i64 (19990))) (.t 18))))⟩, ⟨5, (.some 0), .none, (.o (.s (.mv (.t 19))))⟩]) (.seq (.ops 3 [⟨0, (.some 20), .none,
    (.o (.s (.mv (.t 0))))⟩, ⟨1, (.some 21), .none, (.o (.s (.mks 3 1 8 [(.int .i64 (0))] (.t 20) (.t 20) .true)))⟩, ⟨2, (.some 7), .none, (.o (.s (.mv (.t 21))))⟩])
    (.seq (.seq (.ops 1 [⟨0, (.some 8), .none, (.o (.s (.mv (.k (.int .i64 (0))))))⟩]) (.block 0 (.loop F7l0))) (.seq (.ops 4 [⟨0, (.some 32), .none, (.o (.s .empt))⟩, ⟨1,
    (.some 33), .none, (.o (.s (.mv (.t 7))))⟩, ⟨2, (.some 34), .none, (.o (.s (.grow 3 1 8 (.t 32) (.t 33))))⟩, ⟨3, (.some 9), .none, (.o (.s (.mv (.t 34))))⟩])
    (.seq (.ops 7 [⟨0, (.some 35), .none, (.o (.s (.mv (.t 1))))⟩, ⟨1, (.some 36), .none, (.o (.s (.cvi .u64 (.t 35))))⟩, ⟨2, (.some 37), .none, (.o (.s (.mv (.t 0))))⟩,
    ⟨3, (.some 38), .none, (.o (.s (.cvi .u64 (.t 37))))⟩, ⟨4, (.some 39), .none, (.o (.s (.bin .rem (.t 36) (.t 38))))⟩, ⟨5, (.some 40), .none,
    (.o (.s (.cvi .i64 (.t 39))))⟩, ⟨6, (.some 10), .none, (.o (.s (.mv (.t 40))))⟩]) (.seq (.ops 4 [⟨0, (.some 41), .none, (.o (.s (.mv (.t 9))))⟩, ⟨1, (.some 42), .none,
    (.o (.s (.mv (.t 10))))⟩, ⟨2, (.some 43), .none, (.o (.s (.ia 1 (.t 41) (.t 42))))⟩, ⟨3, .none, .none, (.o (.s (.store 1 (.t 43) (.k (.int .i64 (9))))))⟩])
    (.seq (.seq (.ops 1 [⟨0, (.some 44), .none, (.o (.s (.mv (.t 2))))⟩]) (.cond (.t 44) (.ops 4 [⟨0, (.some 45), .none, (.o (.s (.mv (.t 9))))⟩, ⟨1, (.some 46), .none,
    (.o (.s (.mv (.t 7))))⟩, ⟨2, (.some 7), .none, (.o (.s (.mv (.t 45))))⟩, ⟨3, (.some 9), .none, (.o (.s (.mv (.t 46))))⟩]) .skip)) (.seq (.ops 8 [⟨0, (.some 48), .none,
    (.o (.s (.mv (.t 7))))⟩, ⟨1, (.some 49), .none, (.o (.s (.mv (.t 9))))⟩, ⟨2, (.some 50), .none, (.o (.call 10 [(.t 48), (.t 49)]))⟩, ⟨3, (.some 47), .none,
    (.o (.s (.mv (.t 50))))⟩, ⟨4, (.some 51), .none, (.o (.s (.ext (.t 47) 0)))⟩, ⟨5, (.some 52), .none, (.o (.s (.ext (.t 47) 1)))⟩, ⟨6, (.some 11), .none,
    (.o (.s (.mv (.t 51))))⟩, ⟨7, (.some 12), .none, (.o (.s (.mv (.t 52))))⟩]) (.seq (.ops 9 [⟨0, (.some 54), .none, (.o (.s (.mv (.t 7))))⟩, ⟨1, (.some 55), .none,
    (.o (.s (.sub 1 (.t 54) .none (.some (.k (.int .i64 (5)))))))⟩, ⟨2, (.some 56), .none, (.o (.s (.mv (.t 9))))⟩, ⟨3, (.some 57), .none, (.o (.call 10 [(.t 55),
    (.t 56)]))⟩, ⟨4, (.some 53), .none, (.o (.s (.mv (.t 57))))⟩, ⟨5, (.some 58), .none, (.o (.s (.ext (.t 53) 0)))⟩, ⟨6, (.some 59), .none, (.o (.s (.ext (.t 53) 1)))⟩,
    ⟨7, (.some 13), .none, (.o (.s (.mv (.t 58))))⟩, ⟨8, (.some 14), .none, (.o (.s (.mv (.t 59))))⟩]) (.seq (.seq (.ops 2 [⟨0, (.some 60), .none, (.o (.s (.mv (.t 0))))⟩,
    ⟨1, (.some 61), .none, (.o (.s (.bin .gtr (.t 60) (.k (.int .i64 (20000))))))⟩]) (.cond (.t 61) (.seq (.ops 15 [⟨0, (.some 62), .none, (.o (.call 11 []))⟩, ⟨1,
    (.some 63), .none, (.o (.s (.mv (.t 62))))⟩, ⟨2, (.some 64), (.some (63, .true)), (.o (.s (.mv (.t 12))))⟩, ⟨3, (.some 65), (.some (63, .true)),
    (.o (.s (.bin .eql (.t 64) (.k (.int .i64 (2))))))⟩, ⟨4, (.some 66), .none, (.o (.s (.pick (.t 63) (.t 65) (.k (.bool .false)))))⟩, ⟨5, (.some 67), .none,
    (.o (.s (.mv (.t 66))))⟩, ⟨6, (.some 68), (.some (67, .true)), (.o (.s (.mv (.t 14))))⟩, ⟨7, (.some 69), (.some (67, .true)), (.o (.s (.bin .eql (.t 68)
    (.k (.int .i64 (2))))))⟩, ⟨8, (.some 70), .none, (.o (.s (.pick (.t 67) (.t 69) (.k (.bool .false)))))⟩, ⟨9, (.some 71), .none, (.o (.s (.mv (.t 70))))⟩, ⟨10,
    (.some 72), (.some (71, .true)), (.o (.s (.mv (.t 11))))⟩, ⟨11, (.some 73), (.some (71, .true)), (.o (.s (.len (.t 72))))⟩, ⟨12, (.some 74), (.some (71, .true)),
    (.o (.s (.bin .eql (.t 73) (.k (.int .i64 (0))))))⟩, ⟨13, (.some 75), .none, (.o (.s (.pick (.t 71) (.t 74) (.k (.bool .false)))))⟩, ⟨14, (.some 6), .none,
    (.o (.s (.mv (.t 75))))⟩]) .ret) .skip)) (.seq (.ops 17 [⟨0, (.some 76), .none, (.o (.call 11 []))⟩, ⟨1, (.some 77), .none, (.o (.s (.mv (.t 76))))⟩, ⟨2, (.some 78),
    (.some (77, .true)), (.o (.s (.mv (.t 12))))⟩, ⟨3, (.some 79), (.some (77, .true)), (.o (.s (.bin .eql (.t 78) (.k (.int .i64 (0))))))⟩, ⟨4, (.some 80), .none,
    (.o (.s (.pick (.t 77) (.t 79) (.k (.bool .false)))))⟩, ⟨5, (.some 81), .none, (.o (.s (.mv (.t 80))))⟩, ⟨6, (.some 82), (.some (81, .true)), (.o (.s (.mv (.t 14))))⟩,
    ⟨7, (.some 83), (.some (81, .true)), (.o (.s (.bin .eql (.t 82) (.k (.int .i64 (0))))))⟩, ⟨8, (.some 84), .none, (.o (.s (.pick (.t 81) (.t 83)
    (.k (.bool .false)))))⟩, ⟨9, (.some 85), .none, (.o (.s (.mv (.t 84))))⟩, ⟨10, (.some 86), (.some (85, .true)), (.o (.s (.mv (.t 11))))⟩, ⟨11, (.some 87), (.some (85,
    .true)), (.o (.s (.len (.t 86))))⟩, ⟨12, (.some 88), (.some (85, .true)), (.o (.s (.mv (.t 0))))⟩, ⟨13, (.some 89), (.some (85, .true)), (.o (.s (.bin .sub (.t 88)
    (.k (.int .i64 (1))))))⟩, ⟨14, (.some 90), (.some (85, .true)), (.o (.s (.bin .eql (.t 87) (.t 89))))⟩, ⟨15, (.some 91), .none, (.o (.s (.pick (.t 85) (.t 90)
    (.k (.bool .false)))))⟩, ⟨16, (.some 6), .none, (.o (.s (.mv (.t 91))))⟩]) .ret))))))))))))
noncomputable def F7b : Go.Code := Go.Proofs.Try.f7.body.getD .skip
theorem F7c : comp C [(2, 1), (7, 0), (7, 2)] F7b = some F7s.er := by kernel_rfl
theorem F7w : F7s.wf = true := by kernel_rfl
theorem F7d : Go.Proofs.Try.f7.body = some F7b := by kernel_rfl
@[simp] def F7q : List RV2 := [(.o (.tmp 6))]
theorem F7r : compRVs C Go.Proofs.Try.f7.results.toList = some (F7q.map RV2.er) := by kernel_rfl
theorem F7e : Enters Go.Proofs.Try.prog 7 := enters_of Go.Proofs.Try.func7 (by kernel_rfl) (by kernel_rfl)

/-- scarf/scarflaw16.MyersTurns -- 0: grows t45 t47 -/
def F8l0 : S2 :=
  (.seq (.seq (.ops 4 [⟨0, (.some 51), .none, (.o (.s (.mv (.t 16))))⟩, ⟨1, (.some 52), .none, (.o (.s (.mv (.t 14))))⟩, ⟨2, (.some 53), .none, (.o (.s (.len (.t 52))))⟩,
    ⟨3, (.some 54), .none, (.o (.s (.bin .lss (.t 51) (.t 53))))⟩]) (.cond (.t 54) .skip (.exit 0))) (.seq (.block 1 (.seq (.ops 8 [⟨0, (.some 57), .none,
    (.o (.s (.mv (.t 14))))⟩, ⟨1, (.some 58), .none, (.o (.s (.mv (.t 16))))⟩, ⟨2, (.some 59), .none, (.o (.s (.ia 2 (.t 57) (.t 58))))⟩, ⟨3, (.some 60), .none,
    (.o (.s (.load (.some 2) (.t 59))))⟩, ⟨4, (.some 61), .none, (.o (.s (.mv (.t 16))))⟩, ⟨5, (.some 62), .none, (.o (.s (.mv (.t 16))))⟩, ⟨6, (.some 63), .none,
    (.o (.s (.build [(.int .i64 (0)), (.int .i64 (0))] [(0, (1, (.t 61))), (1, (1, (.t 62)))])))⟩, ⟨7, (.some 64), .none, (.o (.s (.eqs (.agg [.int, .int]) .true (.t 60)
    (.t 63))))⟩]) (.cond (.t 64) (.seq (.ops 1 [⟨0, (.some 4), .none, (.o (.s (.mv (.k (.bool .false)))))⟩]) .ret) .skip))) (.ops 3 [⟨0, (.some 55), .none,
    (.o (.s (.mv (.t 16))))⟩, ⟨1, (.some 56), .none, (.o (.s (.bin .add (.t 55) (.k (.int .i64 (1))))))⟩, ⟨2, (.some 16), .none, (.o (.s (.mv (.t 56))))⟩])))
theorem F8l0w : F8l0.wf = true := by kernel_rfl
def F8s : S2 :=
  (.seq (.ops 1 [⟨0, (.some 4), .none, (.o (.s (.mv (.k (.bool .false)))))⟩]) (.seq (.ops 6 [⟨0, (.some 17), .none, (.o (.s (.mv (.t 0))))⟩, ⟨1, (.some 18), .none,
    (.o (.call 9 [(.t 17), (.k (.int .i64 (6)))]))⟩, ⟨2, (.some 19), .none, (.o (.s (.mv (.t 1))))⟩, ⟨3, (.some 20), .none, (.o (.call 9 [(.t 19),
    (.k (.int .i64 (6)))]))⟩, ⟨4, (.some 5), .none, (.o (.s (.mv (.t 18))))⟩, ⟨5, (.some 6), .none, (.o (.s (.mv (.t 20))))⟩]) (.seq (.ops 1 [⟨0, (.some 7), .none,
    (.o (.s (.mv (.k (.fn (.func 18) [] [])))))⟩]) (.seq (.ops 8 [⟨0, (.some 22), .none, (.o (.s (.mv (.t 5))))⟩, ⟨1, (.some 23), .none, (.o (.s (.mv (.t 6))))⟩, ⟨2,
    (.some 24), .none, (.o (.call 10 [(.t 22), (.t 23)]))⟩, ⟨3, (.some 21), .none, (.o (.s (.mv (.t 24))))⟩, ⟨4, (.some 25), .none, (.o (.s (.ext (.t 21) 0)))⟩, ⟨5,
    (.some 26), .none, (.o (.s (.ext (.t 21) 1)))⟩, ⟨6, (.some 8), .none, (.o (.s (.mv (.t 25))))⟩, ⟨7, (.some 9), .none, (.o (.s (.mv (.t 26))))⟩]) (.seq (.ops 8 [⟨0,
    (.some 28), .none, (.o (.s (.mv (.t 6))))⟩, ⟨1, (.some 29), .none, (.o (.s (.mv (.t 5))))⟩, ⟨2, (.some 30), .none, (.o (.call 10 [(.t 28), (.t 29)]))⟩, ⟨3, (.some 27),
    .none, (.o (.s (.mv (.t 30))))⟩, ⟨4, (.some 31), .none, (.o (.s (.ext (.t 27) 0)))⟩, ⟨5, (.some 32), .none, (.o (.s (.ext (.t 27) 1)))⟩, ⟨6, (.some 10), .none,
    (.o (.s (.mv (.t 31))))⟩, ⟨7, (.some 11), .none, (.o (.s (.mv (.t 32))))⟩]) (.seq (.ops 12 [⟨0, (.some 34), .none, (.o (.s (.mv (.t 7))))⟩, ⟨1, (.some 35), .none,
    (.o (.s (.mv (.t 5))))⟩, ⟨2, (.some 36), .none, (.o (.callv (.t 34) [(.t 35)]))⟩, ⟨3, (.some 37), .none, (.o (.s (.mv (.t 7))))⟩, ⟨4, (.some 38), .none,
    (.o (.s (.mv (.t 6))))⟩, ⟨5, (.some 39), .none, (.o (.callv (.t 37) [(.t 38)]))⟩, ⟨6, (.some 40), .none, (.o (.call 10 [(.t 36), (.t 39)]))⟩, ⟨7, (.some 33), .none,
    (.o (.s (.mv (.t 40))))⟩, ⟨8, (.some 41), .none, (.o (.s (.ext (.t 33) 0)))⟩, ⟨9, (.some 42), .none, (.o (.s (.ext (.t 33) 1)))⟩, ⟨10, (.some 12), .none,
    (.o (.s (.mv (.t 41))))⟩, ⟨11, (.some 13), .none, (.o (.s (.mv (.t 42))))⟩]) (.seq (.ops 10 [⟨0, (.some 44), .none, (.o (.s (.mv (.t 5))))⟩, ⟨1, (.some 45), .none,
    (.lbsl 0 3 1 0 [(.int .i64 (0))] [] .false)⟩, ⟨2, (.some 46), .none, (.o (.s (.mv (.t 5))))⟩, ⟨3, (.some 47), .none, (.lapp 0 3 1 8 (.t 45) (.t 46))⟩, ⟨4, (.some 48),
    .none, (.o (.call 10 [(.t 44), (.t 47)]))⟩, ⟨5, (.some 43), .none, (.o (.s (.mv (.t 48))))⟩, ⟨6, (.some 49), .none, (.o (.s (.ext (.t 43) 0)))⟩, ⟨7, (.some 50), .none,
    (.o (.s (.ext (.t 43) 1)))⟩, ⟨8, (.some 14), .none, (.o (.s (.mv (.t 49))))⟩, ⟨9, (.some 15), .none, (.o (.s (.mv (.t 50))))⟩]) (.seq (.seq (.ops 1 [⟨0, (.some 16),
    .none, (.o (.s (.mv (.k (.int .i64 (0))))))⟩]) (.block 0 (.loop F8l0))) (.seq (.ops 39 [⟨0, (.some 65), .none, (.o (.call 11 []))⟩, ⟨1, (.some 66), .none,
    (.o (.s (.mv (.t 65))))⟩, ⟨2, (.some 67), (.some (66, .true)), (.o (.s (.mv (.t 9))))⟩, ⟨3, (.some 68), (.some (66, .true)), (.o (.s (.bin .eql (.t 67)
    (.k (.int .i64 (0))))))⟩, ⟨4, (.some 69), .none, (.o (.s (.pick (.t 66) (.t 68) (.k (.bool .false)))))⟩, ⟨5, (.some 70), .none, (.o (.s (.mv (.t 69))))⟩, ⟨6,
    (.some 71), (.some (70, .true)), (.o (.s (.mv (.t 11))))⟩, ⟨7, (.some 72), (.some (70, .true)), (.o (.s (.bin .eql (.t 71) (.k (.int .i64 (0))))))⟩, ⟨8, (.some 73),
    .none, (.o (.s (.pick (.t 70) (.t 72) (.k (.bool .false)))))⟩, ⟨9, (.some 74), .none, (.o (.s (.mv (.t 73))))⟩, ⟨10, (.some 75), (.some (74, .true)),
    (.o (.s (.mv (.t 13))))⟩, ⟨11, (.some 76), (.some (74, .true)), (.o (.s (.bin .eql (.t 75) (.k (.int .i64 (0))))))⟩, ⟨12, (.some 77), .none, (.o (.s (.pick (.t 74)
    (.t 76) (.k (.bool .false)))))⟩, ⟨13, (.some 78), .none, (.o (.s (.mv (.t 77))))⟩, ⟨14, (.some 79), (.some (78, .true)), (.o (.s (.mv (.t 15))))⟩, ⟨15, (.some 80),
    (.some (78, .true)), (.o (.s (.bin .eql (.t 79) (.k (.int .i64 (0))))))⟩, ⟨16, (.some 81), .none, (.o (.s (.pick (.t 78) (.t 80) (.k (.bool .false)))))⟩, ⟨17,
    (.some 82), .none, (.o (.s (.mv (.t 81))))⟩, ⟨18, (.some 83), (.some (82, .true)), (.o (.s (.mv (.t 8))))⟩, ⟨19, (.some 84), (.some (82, .true)),
    (.o (.s (.len (.t 83))))⟩, ⟨20, (.some 85), (.some (82, .true)), (.o (.s (.mv (.t 10))))⟩, ⟨21, (.some 86), (.some (82, .true)), (.o (.s (.len (.t 85))))⟩, ⟨22,
    (.some 87), (.some (82, .true)), (.o (.s (.bin .eql (.t 84) (.t 86))))⟩, ⟨23, (.some 88), .none, (.o (.s (.pick (.t 82) (.t 87) (.k (.bool .false)))))⟩, ⟨24,
    (.some 89), .none, (.o (.s (.mv (.t 88))))⟩, ⟨25, (.some 90), (.some (89, .true)), (.o (.s (.mv (.t 8))))⟩, ⟨26, (.some 91), (.some (89, .true)),
    (.o (.s (.len (.t 90))))⟩, ⟨27, (.some 92), (.some (89, .true)), (.o (.s (.mv (.t 12))))⟩, ⟨28, (.some 93), (.some (89, .true)), (.o (.s (.len (.t 92))))⟩, ⟨29,
    (.some 94), (.some (89, .true)), (.o (.s (.bin .eql (.t 91) (.t 93))))⟩, ⟨30, (.some 95), .none, (.o (.s (.pick (.t 89) (.t 94) (.k (.bool .false)))))⟩, ⟨31,
    (.some 96), .none, (.o (.s (.mv (.t 95))))⟩, ⟨32, (.some 97), (.some (96, .true)), (.o (.s (.mv (.t 14))))⟩, ⟨33, (.some 98), (.some (96, .true)),
    (.o (.s (.len (.t 97))))⟩, ⟨34, (.some 99), (.some (96, .true)), (.o (.s (.mv (.t 5))))⟩, ⟨35, (.some 100), (.some (96, .true)), (.o (.s (.len (.t 99))))⟩, ⟨36,
    (.some 101), (.some (96, .true)), (.o (.s (.bin .eql (.t 98) (.t 100))))⟩, ⟨37, (.some 102), .none, (.o (.s (.pick (.t 96) (.t 101) (.k (.bool .false)))))⟩, ⟨38,
    (.some 4), .none, (.o (.s (.mv (.t 102))))⟩]) .ret)))))))))
noncomputable def F8b : Go.Code := Go.Proofs.Try.f8.body.getD .skip
theorem F8c : comp C [] F8b = some F8s.er := by kernel_rfl
theorem F8w : F8s.wf = true := by kernel_rfl
theorem F8d : Go.Proofs.Try.f8.body = some F8b := by kernel_rfl
@[simp] def F8q : List RV2 := [(.o (.tmp 4))]
theorem F8r : compRVs C Go.Proofs.Try.f8.results.toList = some (F8q.map RV2.er) := by kernel_rfl
theorem F8e : Enters Go.Proofs.Try.prog 8 := enters_of Go.Proofs.Try.func8 (by kernel_rfl) (by kernel_rfl)

/-- scarf/scarflaw16.few -- 0: grows t4 t5 t18 t29 t30 -/
def F9l0 : S2 :=
  (.seq (.seq (.ops 4 [⟨0, (.some 12), .none, (.o (.s (.mv (.t 6))))⟩, ⟨1, (.some 13), .none, (.o (.s (.mv (.t 0))))⟩, ⟨2, (.some 14), .none, (.o (.s (.len (.t 13))))⟩, ⟨3,
    (.some 15), .none, (.o (.s (.bin .lss (.t 12) (.t 14))))⟩]) (.cond (.t 15) .skip (.exit 0))) (.seq (.block 1 (.ops 13 [⟨0, (.some 18), .none, (.o (.s (.mv (.t 5))))⟩,
    ⟨1, (.some 19), .none, (.o (.s (.mv (.t 0))))⟩, ⟨2, (.some 20), .none, (.o (.s (.mv (.t 6))))⟩, ⟨3, (.some 21), .none, (.o (.s (.ia 1 (.t 19) (.t 20))))⟩, ⟨4,
    (.some 22), .none, (.o (.s (.load .none (.t 21))))⟩, ⟨5, (.some 23), .none, (.o (.s (.cvi .u64 (.t 22))))⟩, ⟨6, (.some 24), .none, (.o (.s (.mv (.t 1))))⟩, ⟨7,
    (.some 25), .none, (.o (.s (.cvi .u64 (.t 24))))⟩, ⟨8, (.some 26), .none, (.o (.s (.bin .rem (.t 23) (.t 25))))⟩, ⟨9, (.some 27), .none,
    (.o (.s (.cvi .i64 (.t 26))))⟩, ⟨10, (.some 28), .none, (.lbsl 1 3 1 1 [(.int .i64 (0))] [(0, (.t 27))] .false)⟩, ⟨11, (.some 29), .none, (.lapp 0 3 1 8 (.t 18)
    (.t 28))⟩, ⟨12, (.some 5), .none, (.o (.s (.mv (.t 29))))⟩])) (.ops 3 [⟨0, (.some 16), .none, (.o (.s (.mv (.t 6))))⟩, ⟨1, (.some 17), .none,
    (.o (.s (.bin .add (.t 16) (.k (.int .i64 (1))))))⟩, ⟨2, (.some 6), .none, (.o (.s (.mv (.t 17))))⟩])))
theorem F9l0w : F9l0.wf = true := by kernel_rfl
def F9s : S2 :=
  (.seq (.ops 1 [⟨0, (.some 4), .none, (.o (.s (.mv (.k .nils))))⟩]) (.seq (.seq (.ops 3 [⟨0, (.some 7), .none, (.o (.s (.mv (.t 0))))⟩, ⟨1, (.some 8), .none,
    (.o (.s (.len (.t 7))))⟩, ⟨2, (.some 9), .none, (.o (.s (.bin .gtr (.t 8) (.k (.int .i64 (150))))))⟩]) (.cond (.t 9) (.ops 3 [⟨0, (.some 10), .none,
    (.o (.s (.mv (.t 0))))⟩, ⟨1, (.some 11), .none, (.o (.s (.sub 1 (.t 10) .none (.some (.k (.int .i64 (150)))))))⟩, ⟨2, (.some 0), .none, (.o (.s (.mv (.t 11))))⟩])
    .skip)) (.seq (.ops 1 [⟨0, (.some 5), .none, (.o (.s (.mv (.k .nils))))⟩]) (.seq (.seq (.ops 1 [⟨0, (.some 6), .none, (.o (.s (.mv (.k (.int .i64 (0))))))⟩])
    (.block 0 (.loop F9l0))) (.seq (.ops 2 [⟨0, (.some 30), .none, (.o (.s (.mv (.t 5))))⟩, ⟨1, (.some 4), .none, (.o (.s (.mv (.t 30))))⟩]) .ret)))))
noncomputable def F9b : Go.Code := Go.Proofs.Try.f9.body.getD .skip
theorem F9c : comp C [] F9b = some F9s.er := by kernel_rfl
theorem F9w : F9s.wf = true := by kernel_rfl
theorem F9d : Go.Proofs.Try.f9.body = some F9b := by kernel_rfl
@[simp] def F9q : List RV2 := [(.o (.tmp 4))]
theorem F9r : compRVs C Go.Proofs.Try.f9.results.toList = some (F9q.map RV2.er) := by kernel_rfl
theorem F9e : Enters Go.Proofs.Try.prog 9 := enters_of Go.Proofs.Try.func9 (by kernel_rfl) (by kernel_rfl)

/-- scarf/myers.Of --  -/
def F10s : S2 :=
  (.seq (.ops 2 [⟨0, (.some 4), .none, (.o (.s (.mv (.k .nils))))⟩, ⟨1, (.some 5), .none, (.o (.s (.mv (.k (.int .i64 (0))))))⟩]) (.seq (.seq (.ops 8 [⟨0, (.some 7), .none,
    (.o (.s (.mv (.t 0))))⟩, ⟨1, (.some 8), .none, (.o (.s (.len (.t 7))))⟩, ⟨2, (.some 9), .none, (.o (.s (.bin .gtr (.t 8) (.k (.int .i64 (20000))))))⟩, ⟨3, (.some 10),
    .none, (.o (.s (.mv (.t 9))))⟩, ⟨4, (.some 11), (.some (10, .false)), (.o (.s (.mv (.t 1))))⟩, ⟨5, (.some 12), (.some (10, .false)), (.o (.s (.len (.t 11))))⟩, ⟨6,
    (.some 13), (.some (10, .false)), (.o (.s (.bin .gtr (.t 12) (.k (.int .i64 (20000))))))⟩, ⟨7, (.some 14), .none, (.o (.s (.pick (.t 10) (.k (.bool .true))
    (.t 13))))⟩]) (.cond (.t 14) (.seq (.ops 2 [⟨0, (.some 4), .none, (.o (.s (.mv (.k .nils))))⟩, ⟨1, (.some 5), .none, (.o (.s (.mv (.k (.int .i64 (2))))))⟩]) .ret)
    .skip)) (.seq (.ops 1 [⟨0, (.some 6), .none, (.o (.s (.alloc 46 [.nils])))⟩]) (.seq (.ops 3 [⟨0, (.some 15), .none, (.o (.s (.mv (.t 0))))⟩, ⟨1, (.some 16), .none,
    (.o (.s (.mv (.t 1))))⟩, ⟨2, (.some 17), .none, (.o (.call 19 [(.t 6), (.t 15), (.t 16), (.k (.int .i64 (0))), (.k (.int .i64 (0)))]))⟩]) (.seq (.ops 4 [⟨0,
    (.some 18), .none, (.o (.s (.fa 0 (.t 6))))⟩, ⟨1, (.some 19), .none, (.o (.s (.load .none (.t 18))))⟩, ⟨2, (.some 4), .none, (.o (.s (.mv (.t 19))))⟩, ⟨3, (.some 5),
    .none, (.o (.s (.mv (.k (.int .i64 (0))))))⟩]) .ret)))))
noncomputable def F10b : Go.Code := Go.Proofs.Try.f10.body.getD .skip
theorem F10c : comp C [] F10b = some F10s.er := by kernel_rfl
theorem F10w : F10s.wf = true := by kernel_rfl
theorem F10d : Go.Proofs.Try.f10.body = some F10b := by kernel_rfl
@[simp] def F10q : List RV2 := [(.o (.tmp 4)), (.o (.tmp 5))]
theorem F10r : compRVs C Go.Proofs.Try.f10.results.toList = some (F10q.map RV2.er) := by kernel_rfl
theorem F10e : Enters Go.Proofs.Try.prog 10 := enters_of Go.Proofs.Try.func10 (by kernel_rfl) (by kernel_rfl)

/-- scarf/scarflaw16.known --  -/
def F11s : S2 :=
  (.seq (.ops 1 [⟨0, (.some 0), .none, (.o (.s (.mv (.k (.bool .false)))))⟩]) (.seq (.ops 8 [⟨0, (.some 5), .none, (.lbsl 0 3 1 4 [(.int .i64 (0))] [(0,
    (.k (.int .i64 (1)))), (1, (.k (.int .i64 (2)))), (2, (.k (.int .i64 (3)))), (3, (.k (.int .i64 (4))))] .false)⟩, ⟨1, (.some 6), .none,
    (.lbsl 0 3 1 3 [(.int .i64 (0))] [(0, (.k (.int .i64 (2)))), (1, (.k (.int .i64 (4)))), (2, (.k (.int .i64 (1))))] .false)⟩, ⟨2, (.some 7), .none,
    (.o (.call 10 [(.t 5), (.t 6)]))⟩, ⟨3, (.some 4), .none, (.o (.s (.mv (.t 7))))⟩, ⟨4, (.some 8), .none, (.o (.s (.ext (.t 4) 0)))⟩, ⟨5, (.some 9), .none,
    (.o (.s (.ext (.t 4) 1)))⟩, ⟨6, (.some 1), .none, (.o (.s (.mv (.t 8))))⟩, ⟨7, (.some 2), .none, (.o (.s (.mv (.t 9))))⟩]) (.seq (.ops 13 [⟨0, (.some 10), .none,
    (.o (.s (.bslice 5 1 1 [(.int .u8 (0))] [(0, (.k (.int .u8 (97))))] .false)))⟩, ⟨1, (.some 11), .none, (.o (.s (.marks (.t 10))))⟩, ⟨2, (.some 12), .none,
    (.o (.s (.bslice 5 1 1 [(.int .u8 (0))] [(0, (.k (.int .u8 (98))))] .false)))⟩, ⟨3, (.some 13), .none, (.o (.s (.marks (.t 12))))⟩, ⟨4, (.some 14), .none,
    (.lbsl 0 38 1 2 [.nils] [(0, (.t 11)), (1, (.t 13))] .false)⟩, ⟨5, (.some 15), .none, (.o (.s (.bslice 5 1 1 [(.int .u8 (0))] [(0, (.k (.int .u8 (98))))] .false)))⟩,
    ⟨6, (.some 16), .none, (.o (.s (.marks (.t 15))))⟩, ⟨7, (.some 17), .none, (.o (.s (.bslice 5 1 1 [(.int .u8 (0))] [(0, (.k (.int .u8 (99))))] .false)))⟩, ⟨8,
    (.some 18), .none, (.o (.s (.marks (.t 17))))⟩, ⟨9, (.some 19), .none, (.lbsl 0 38 1 2 [.nils] [(0, (.t 16)), (1, (.t 18))] .false)⟩, ⟨10, (.some 20), .none,
    (.lbsl 0 37 1 2 [.nils] [(0, (.t 14)), (1, (.t 19))] .false)⟩, ⟨11, (.some 21), .none, (.o (.call 16 [(.t 20)]))⟩, ⟨12, (.some 3), .none, (.o (.s (.mv (.t 21))))⟩])
    (.seq (.ops 42 [⟨0, (.some 22), .none, (.o (.s (.mv (.t 2))))⟩, ⟨1, (.some 23), .none, (.o (.s (.bin .eql (.t 22) (.k (.int .i64 (0))))))⟩, ⟨2, (.some 24), .none,
    (.o (.s (.mv (.t 23))))⟩, ⟨3, (.some 25), (.some (24, .true)), (.o (.s (.mv (.t 1))))⟩, ⟨4, (.some 26), (.some (24, .true)), (.o (.s (.len (.t 25))))⟩, ⟨5, (.some 27),
    (.some (24, .true)), (.o (.s (.bin .eql (.t 26) (.k (.int .i64 (2))))))⟩, ⟨6, (.some 28), .none, (.o (.s (.pick (.t 24) (.t 27) (.k (.bool .false)))))⟩, ⟨7,
    (.some 29), .none, (.o (.s (.mv (.t 28))))⟩, ⟨8, (.some 30), (.some (29, .true)), (.o (.s (.mv (.t 1))))⟩, ⟨9, (.some 31), (.some (29, .true)), (.o (.s (.ia 2 (.t 30)
    (.k (.int .i64 (0))))))⟩, ⟨10, (.some 32), (.some (29, .true)), (.o (.s (.load (.some 2) (.t 31))))⟩, ⟨11, (.some 33), (.some (29, .true)),
    (.o (.s (.build [(.int .i64 (0)), (.int .i64 (0))] [(0, (1, (.k (.int .i64 (1))))), (1, (1, (.k (.int .i64 (0)))))])))⟩, ⟨12, (.some 34), (.some (29, .true)),
    (.o (.s (.eqs (.agg [.int, .int]) .false (.t 32) (.t 33))))⟩, ⟨13, (.some 35), .none, (.o (.s (.pick (.t 29) (.t 34) (.k (.bool .false)))))⟩, ⟨14, (.some 36), .none,
    (.o (.s (.mv (.t 35))))⟩, ⟨15, (.some 37), (.some (36, .true)), (.o (.s (.mv (.t 3))))⟩, ⟨16, (.some 38), (.some (36, .true)), (.o (.s (.len (.t 37))))⟩, ⟨17,
    (.some 39), (.some (36, .true)), (.o (.s (.bin .eql (.t 38) (.k (.int .i64 (2))))))⟩, ⟨18, (.some 40), .none, (.o (.s (.pick (.t 36) (.t 39) (.k (.bool .false)))))⟩,
    ⟨19, (.some 41), .none, (.o (.s (.mv (.t 40))))⟩, ⟨20, (.some 42), (.some (41, .true)), (.o (.s (.mv (.t 3))))⟩, ⟨21, (.some 43), (.some (41, .true)),
    (.o (.s (.ia 1 (.t 42) (.k (.int .i64 (1))))))⟩, ⟨22, (.some 44), (.some (41, .true)), (.o (.s (.load .none (.t 43))))⟩, ⟨23, (.some 45), (.some (41, .true)),
    (.lbsl 0 3 1 2 [(.int .i64 (0))] [(0, (.k (.int .i64 (1)))), (1, (.k (.int .i64 (2))))] .false)⟩, ⟨24, (.some 46), (.some (41, .true)), (.o (.call 14 [(.t 44),
    (.t 45)]))⟩, ⟨25, (.some 47), .none, (.o (.s (.pick (.t 41) (.t 46) (.k (.bool .false)))))⟩, ⟨26, (.some 48), .none, (.o (.s (.mv (.t 47))))⟩, ⟨27, (.some 49),
    (.some (48, .true)), (.lbsl 0 3 1 1 [(.int .i64 (0))] [(0, (.k (.int .i64 (1))))] .false)⟩, ⟨28, (.some 50), (.some (48, .true)), (.lbsl 0 3 1 1 [(.int .i64 (0))] [(0,
    (.k (.int .i64 (1))))] .false)⟩, ⟨29, (.some 51), (.some (48, .true)), (.o (.s (.build [(.int .i64 (0)), (.int .i64 (0))] [(0, (1, (.k (.int .i64 (0))))), (1, (1,
    (.k (.int .i64 (0)))))])))⟩, ⟨30, (.some 52), (.some (48, .true)), (.lbsl 0 34 2 1 [(.int .i64 (0)), (.int .i64 (0))] [(0, (.t 51))] .false)⟩, ⟨31, (.some 53),
    (.some (48, .true)), (.o (.call 15 [(.t 49), (.t 50), (.t 52)]))⟩, ⟨32, (.some 54), .none, (.o (.s (.pick (.t 48) (.t 53) (.k (.bool .false)))))⟩, ⟨33, (.some 55),
    .none, (.o (.s (.mv (.t 54))))⟩, ⟨34, (.some 56), (.some (55, .true)), (.lbsl 0 3 1 1 [(.int .i64 (0))] [(0, (.k (.int .i64 (1))))] .false)⟩, ⟨35, (.some 57),
    (.some (55, .true)), (.lbsl 0 3 1 1 [(.int .i64 (0))] [(0, (.k (.int .i64 (2))))] .false)⟩, ⟨36, (.some 58), (.some (55, .true)), (.o (.s (.build [(.int .i64 (0)),
    (.int .i64 (0))] [(0, (1, (.k (.int .i64 (0))))), (1, (1, (.k (.int .i64 (0)))))])))⟩, ⟨37, (.some 59), (.some (55, .true)), (.lbsl 0 34 2 1 [(.int .i64 (0)),
    (.int .i64 (0))] [(0, (.t 58))] .false)⟩, ⟨38, (.some 60), (.some (55, .true)), (.o (.call 15 [(.t 56), (.t 57), (.t 59)]))⟩, ⟨39, (.some 61), (.some (55, .true)),
    (.o (.s (.un .not (.t 60))))⟩, ⟨40, (.some 62), .none, (.o (.s (.pick (.t 55) (.t 61) (.k (.bool .false)))))⟩, ⟨41, (.some 0), .none, (.o (.s (.mv (.t 62))))⟩])
    .ret))))
noncomputable def F11b : Go.Code := Go.Proofs.Try.f11.body.getD .skip
theorem F11c : comp C [] F11b = some F11s.er := by kernel_rfl
theorem F11w : F11s.wf = true := by kernel_rfl
theorem F11d : Go.Proofs.Try.f11.body = some F11b := by kernel_rfl
@[simp] def F11q : List RV2 := [(.o (.tmp 0))]
theorem F11r : compRVs C Go.Proofs.Try.f11.results.toList = some (F11q.map RV2.er) := by kernel_rfl
theorem F11e : Enters Go.Proofs.Try.prog 11 := enters_of Go.Proofs.Try.func11 (by kernel_rfl) (by kernel_rfl)

/-- scarf/scarfref16.Right --  -/
def F12l0 : S2 :=
  (.seq (.seq (.ops 4 [⟨0, (.some 10), .none, (.o (.s (.mv (.t 7))))⟩, ⟨1, (.some 11), .none, (.o (.s (.mv (.t 2))))⟩, ⟨2, (.some 12), .none, (.o (.s (.len (.t 11))))⟩, ⟨3,
    (.some 13), .none, (.o (.s (.bin .lss (.t 10) (.t 12))))⟩]) (.cond (.t 13) .skip (.exit 0))) (.seq (.block 1 (.seq (.dops 12 [(⟨0, (.some 16), .none,
    (.o (.s (.mv (.t 2))))⟩, (.mk 0 [])), (⟨1, (.some 17), .none, (.o (.s (.mv (.t 7))))⟩, (.mk 0 [])), (⟨5, (.some 21), .none, (.o (.s (.mv (.t 2))))⟩, (.mk 0 [])), (⟨6,
    (.some 22), .none, (.o (.s (.mv (.t 7))))⟩, (.mk 0 [])), (⟨2, (.some 18), .none, (.o (.s (.ia 2 (.t 16) (.t 17))))⟩, (.mk 1 [])), (⟨3, (.some 19), .none,
    (.o (.s (.iaa 2 1 (.t 18) (.k (.int .i64 (0))))))⟩, (.mk 0 [])), (⟨4, (.some 20), .none, (.o (.s (.load .none (.t 19))))⟩, (.mk 1 [])), (⟨10, (.some 8), .none,
    (.o (.s (.mv (.t 20))))⟩, (.mk 0 [])), (⟨7, (.some 23), .none, (.o (.s (.ia 2 (.t 21) (.t 22))))⟩, (.mk 1 [])), (⟨8, (.some 24), .none, (.o (.s (.iaa 2 1 (.t 23)
    (.k (.int .i64 (1))))))⟩, (.mk 0 [])), (⟨9, (.some 25), .none, (.o (.s (.load .none (.t 24))))⟩, (.mk 1 [])), (⟨11, (.some 9), .none, (.o (.s (.mv (.t 25))))⟩,
    (.mk 0 []))]) (.seq (.seq (.dops 29 [(⟨0, (.some 26), .none, (.o (.s (.mv (.t 8))))⟩, (.mk 0 [])), (⟨1, (.some 27), .none, (.o (.s (.bin .lss (.t 26)
    (.k (.int .i64 (0))))))⟩, (.mk 0 [])), (⟨2, (.some 28), .none, (.o (.s (.mv (.t 27))))⟩, (.mk 0 [])), (⟨3, (.some 29), (.some (28, .false)), (.o (.s (.mv (.t 8))))⟩,
    (.mk 0 [])), (⟨4, (.some 30), (.some (28, .false)), (.o (.s (.mv (.t 0))))⟩, (.mk 0 [])), (⟨5, (.some 31), (.some (28, .false)), (.o (.s (.len (.t 30))))⟩,
    (.mk 0 [])), (⟨6, (.some 32), (.some (28, .false)), (.o (.s (.bin .geq (.t 29) (.t 31))))⟩, (.mk 0 [])), (⟨7, (.some 33), .none, (.o (.s (.pick (.t 28)
    (.k (.bool .true)) (.t 32))))⟩, (.mk 0 [])), (⟨8, (.some 34), .none, (.o (.s (.mv (.t 33))))⟩, (.mk 0 [])), (⟨9, (.some 35), (.some (34, .false)),
    (.o (.s (.mv (.t 9))))⟩, (.mk 0 [])), (⟨10, (.some 36), (.some (34, .false)), (.o (.s (.bin .lss (.t 35) (.k (.int .i64 (0))))))⟩, (.mk 0 [])), (⟨11, (.some 37),
    .none, (.o (.s (.pick (.t 34) (.k (.bool .true)) (.t 36))))⟩, (.mk 0 [])), (⟨12, (.some 38), .none, (.o (.s (.mv (.t 37))))⟩, (.mk 0 [])), (⟨13, (.some 39),
    (.some (38, .false)), (.o (.s (.mv (.t 9))))⟩, (.mk 0 [])), (⟨14, (.some 40), (.some (38, .false)), (.o (.s (.mv (.t 1))))⟩, (.mk 0 [])), (⟨15, (.some 41), (.some (38,
    .false)), (.o (.s (.len (.t 40))))⟩, (.mk 0 [])), (⟨16, (.some 42), (.some (38, .false)), (.o (.s (.bin .geq (.t 39) (.t 41))))⟩, (.mk 0 [])), (⟨17, (.some 43), .none,
    (.o (.s (.pick (.t 38) (.k (.bool .true)) (.t 42))))⟩, (.mk 0 [])), (⟨18, (.some 44), .none, (.o (.s (.mv (.t 43))))⟩, (.mk 0 [])), (⟨19, (.some 45), (.some (44,
    .false)), (.o (.s (.mv (.t 0))))⟩, (.mk 0 [])), (⟨20, (.some 46), (.some (44, .false)), (.o (.s (.mv (.t 8))))⟩, (.mk 0 [])), (⟨23, (.some 49), (.some (44, .false)),
    (.o (.s (.mv (.t 1))))⟩, (.mk 0 [])), (⟨24, (.some 50), (.some (44, .false)), (.o (.s (.mv (.t 9))))⟩, (.mk 0 [])), (⟨21, (.some 47), (.some (44, .false)),
    (.o (.s (.ia 1 (.t 45) (.t 46))))⟩, (.mk 1 [])), (⟨22, (.some 48), (.some (44, .false)), (.o (.s (.load .none (.t 47))))⟩, (.mk 1 [])), (⟨25, (.some 51), (.some (44,
    .false)), (.o (.s (.ia 1 (.t 49) (.t 50))))⟩, (.mk 1 [])), (⟨26, (.some 52), (.some (44, .false)), (.o (.s (.load .none (.t 51))))⟩, (.mk 1 [])), (⟨27, (.some 53),
    (.some (44, .false)), (.o (.s (.bin .neq (.t 48) (.t 52))))⟩, (.mk 0 [])), (⟨28, (.some 54), .none, (.o (.s (.pick (.t 44) (.k (.bool .true)) (.t 53))))⟩,
    (.mk 0 []))]) (.cond (.t 54) (.seq (.ops 1 [⟨0, (.some 6), .none, (.o (.s (.mv (.k (.bool .false)))))⟩]) .ret) .skip)) (.seq (.ops 22 [⟨0, (.some 55), .none,
    (.o (.s (.mv (.t 7))))⟩, ⟨1, (.some 56), .none, (.o (.s (.bin .gtr (.t 55) (.k (.int .i64 (0))))))⟩, ⟨2, (.some 57), .none, (.o (.s (.mv (.t 56))))⟩, ⟨3, (.some 58),
    (.some (57, .true)), (.o (.s (.mv (.t 2))))⟩, ⟨4, (.some 59), (.some (57, .true)), (.o (.s (.mv (.t 7))))⟩, ⟨5, (.some 60), (.some (57, .true)),
    (.o (.s (.bin .sub (.t 59) (.k (.int .i64 (1))))))⟩, ⟨6, (.some 61), (.some (57, .true)), (.o (.s (.ia 2 (.t 58) (.t 60))))⟩, ⟨7, (.some 62), (.some (57, .true)),
    (.o (.s (.iaa 2 1 (.t 61) (.k (.int .i64 (0))))))⟩, ⟨8, (.some 63), (.some (57, .true)), (.o (.s (.load .none (.t 62))))⟩, ⟨9, (.some 64), (.some (57, .true)),
    (.o (.s (.mv (.t 8))))⟩, ⟨10, (.some 65), (.some (57, .true)), (.o (.s (.bin .geq (.t 63) (.t 64))))⟩, ⟨11, (.some 66), (.some (57, .true)), (.o (.s (.mv (.t 65))))⟩,
    ⟨12, (.some 67), (.some (66, .false)), (.o (.s (.mv (.t 2))))⟩, ⟨13, (.some 68), (.some (66, .false)), (.o (.s (.mv (.t 7))))⟩, ⟨14, (.some 69), (.some (66, .false)),
    (.o (.s (.bin .sub (.t 68) (.k (.int .i64 (1))))))⟩, ⟨15, (.some 70), (.some (66, .false)), (.o (.s (.ia 2 (.t 67) (.t 69))))⟩, ⟨16, (.some 71), (.some (66, .false)),
    (.o (.s (.iaa 2 1 (.t 70) (.k (.int .i64 (1))))))⟩, ⟨17, (.some 72), (.some (66, .false)), (.o (.s (.load .none (.t 71))))⟩, ⟨18, (.some 73), (.some (66, .false)),
    (.o (.s (.mv (.t 9))))⟩, ⟨19, (.some 74), (.some (66, .false)), (.o (.s (.bin .geq (.t 72) (.t 73))))⟩, ⟨20, (.some 75), (.some (57, .true)), (.o (.s (.pick (.t 66)
    (.k (.bool .true)) (.t 74))))⟩, ⟨21, (.some 76), .none, (.o (.s (.pick (.t 57) (.t 75) (.k (.bool .false)))))⟩]) (.cond (.t 76) (.seq (.ops 1 [⟨0, (.some 6), .none,
    (.o (.s (.mv (.k (.bool .false)))))⟩]) .ret) .skip))))) (.ops 3 [⟨0, (.some 14), .none, (.o (.s (.mv (.t 7))))⟩, ⟨1, (.some 15), .none, (.o (.s (.bin .add (.t 14)
    (.k (.int .i64 (1))))))⟩, ⟨2, (.some 7), .none, (.o (.s (.mv (.t 15))))⟩])))
theorem F12l0w : F12l0.wf = true := by kernel_rfl
def F12s : S2 :=
  (.seq (.ops 1 [⟨0, (.some 6), .none, (.o (.s (.mv (.k (.bool .false)))))⟩]) (.seq (.seq (.ops 1 [⟨0, (.some 7), .none, (.o (.s (.mv (.k (.int .i64 (0))))))⟩])
    (.block 0 (.loop F12l0))) (.seq (.ops 1 [⟨0, (.some 6), .none, (.o (.s (.mv (.k (.bool .true)))))⟩]) .ret)))
noncomputable def F12b : Go.Code := Go.Proofs.Try.f12.body.getD .skip
theorem F12c : comp C [] F12b = some F12s.er := by kernel_rfl
theorem F12w : F12s.wf = true := by kernel_rfl
theorem F12d : Go.Proofs.Try.f12.body = some F12b := by kernel_rfl
@[simp] def F12q : List RV2 := [(.o (.tmp 6))]
theorem F12r : compRVs C Go.Proofs.Try.f12.results.toList = some (F12q.map RV2.er) := by kernel_rfl
theorem F12e : Enters Go.Proofs.Try.prog 12 := enters_of Go.Proofs.Try.func12 (by kernel_rfl) (by kernel_rfl)

/-- scarf/scarfref16.Long -- 0: slice t5 t12 t19 t38 t43 t52 t60 t68 t73 t94 t104 t113 t118 t129 -/
def F13l0 : S2 :=
  (.seq (.seq (.ops 4 [⟨0, (.some 32), .none, (.o (.s (.mv (.t 8))))⟩, ⟨1, (.some 33), .none, (.o (.s (.mv (.t 1))))⟩, ⟨2, (.some 34), .none, (.o (.s (.len (.t 33))))⟩, ⟨3,
    (.some 35), .none, (.o (.s (.bin .leq (.t 32) (.t 34))))⟩]) (.cond (.t 35) .skip (.exit 4))) (.seq (.block 5 (.seq (.dops 15 [(⟨0, (.some 38), .none,
    (.o (.s (.mv (.t 5))))⟩, (.mk 0 [])), (⟨1, (.some 39), .none, (.o (.s (.mv (.t 7))))⟩, (.mk 0 [])), (⟨4, (.some 42), .none, (.o (.s (.mv (.t 8))))⟩, (.mk 0 [])), (⟨5,
    (.some 43), .none, (.o (.s (.mv (.t 5))))⟩, (.mk 0 [])), (⟨6, (.some 44), .none, (.o (.s (.mv (.t 7))))⟩, (.mk 0 [])), (⟨7, (.some 45), .none,
    (.o (.s (.bin .sub (.t 44) (.k (.int .i64 (1))))))⟩, (.mk 0 [])), (⟨10, (.some 48), .none, (.o (.s (.mv (.t 8))))⟩, (.mk 0 [])), (⟨2, (.some 40), .none,
    (.lia 0 1 (.t 38) (.t 39))⟩, (.mk 1 [])), (⟨3, (.some 41), .none, (.lload 0 .none (.t 40))⟩, (.mk 1 [])), (⟨8, (.some 46), .none, (.lia 0 1 (.t 43) (.t 45))⟩,
    (.mk 1 [])), (⟨9, (.some 47), .none, (.lload 0 .none (.t 46))⟩, (.mk 1 [])), (⟨11, (.some 49), .none, (.o (.s (.ia 1 (.t 47) (.t 48))))⟩, (.mk 1 [])), (⟨12,
    (.some 50), .none, (.o (.s (.load .none (.t 49))))⟩, (.mk 1 [])), (⟨13, (.some 51), .none, (.o (.s (.ia 1 (.t 41) (.t 42))))⟩, (.mk 1 [])), (⟨14, .none, .none,
    (.o (.s (.store 1 (.t 51) (.t 50))))⟩, (.mk 2 []))]) (.seq (.seq (.dops 16 [(⟨0, (.some 52), .none, (.o (.s (.mv (.t 5))))⟩, (.mk 0 [])), (⟨1, (.some 53), .none,
    (.o (.s (.mv (.t 7))))⟩, (.mk 0 [])), (⟨4, (.some 56), .none, (.o (.s (.mv (.t 8))))⟩, (.mk 0 [])), (⟨5, (.some 57), .none, (.o (.s (.bin .sub (.t 56)
    (.k (.int .i64 (1))))))⟩, (.mk 0 [])), (⟨8, (.some 60), .none, (.o (.s (.mv (.t 5))))⟩, (.mk 0 [])), (⟨9, (.some 61), .none, (.o (.s (.mv (.t 7))))⟩, (.mk 0 [])),
    (⟨12, (.some 64), .none, (.o (.s (.mv (.t 8))))⟩, (.mk 0 [])), (⟨2, (.some 54), .none, (.lia 0 1 (.t 52) (.t 53))⟩, (.mk 1 [])), (⟨3, (.some 55), .none,
    (.lload 0 .none (.t 54))⟩, (.mk 1 [])), (⟨6, (.some 58), .none, (.o (.s (.ia 1 (.t 55) (.t 57))))⟩, (.mk 1 [])), (⟨7, (.some 59), .none,
    (.o (.s (.load .none (.t 58))))⟩, (.mk 1 [])), (⟨10, (.some 62), .none, (.lia 0 1 (.t 60) (.t 61))⟩, (.mk 1 [])), (⟨11, (.some 63), .none, (.lload 0 .none (.t 62))⟩,
    (.mk 1 [])), (⟨13, (.some 65), .none, (.o (.s (.ia 1 (.t 63) (.t 64))))⟩, (.mk 1 [])), (⟨14, (.some 66), .none, (.o (.s (.load .none (.t 65))))⟩, (.mk 1 [])), (⟨15,
    (.some 67), .none, (.o (.s (.bin .gtr (.t 59) (.t 66))))⟩, (.mk 0 []))]) (.cond (.t 67) (.dops 15 [(⟨0, (.some 68), .none, (.o (.s (.mv (.t 5))))⟩, (.mk 0 [])), (⟨1,
    (.some 69), .none, (.o (.s (.mv (.t 7))))⟩, (.mk 0 [])), (⟨4, (.some 72), .none, (.o (.s (.mv (.t 8))))⟩, (.mk 0 [])), (⟨5, (.some 73), .none, (.o (.s (.mv (.t 5))))⟩,
    (.mk 0 [])), (⟨6, (.some 74), .none, (.o (.s (.mv (.t 7))))⟩, (.mk 0 [])), (⟨9, (.some 77), .none, (.o (.s (.mv (.t 8))))⟩, (.mk 0 [])), (⟨10, (.some 78), .none,
    (.o (.s (.bin .sub (.t 77) (.k (.int .i64 (1))))))⟩, (.mk 0 [])), (⟨2, (.some 70), .none, (.lia 0 1 (.t 68) (.t 69))⟩, (.mk 1 [])), (⟨3, (.some 71), .none,
    (.lload 0 .none (.t 70))⟩, (.mk 1 [])), (⟨7, (.some 75), .none, (.lia 0 1 (.t 73) (.t 74))⟩, (.mk 1 [])), (⟨8, (.some 76), .none, (.lload 0 .none (.t 75))⟩,
    (.mk 1 [])), (⟨11, (.some 79), .none, (.o (.s (.ia 1 (.t 76) (.t 78))))⟩, (.mk 1 [])), (⟨12, (.some 80), .none, (.o (.s (.load .none (.t 79))))⟩, (.mk 1 [])), (⟨13,
    (.some 81), .none, (.o (.s (.ia 1 (.t 71) (.t 72))))⟩, (.mk 1 [])), (⟨14, .none, .none, (.o (.s (.store 1 (.t 81) (.t 80))))⟩, (.mk 2 []))]) .skip))
    (.seq (.dops 31 [(⟨0, (.some 82), .none, (.o (.s (.mv (.t 0))))⟩, (.mk 0 [])), (⟨1, (.some 83), .none, (.o (.s (.mv (.t 7))))⟩, (.mk 0 [])), (⟨2, (.some 84), .none,
    (.o (.s (.bin .sub (.t 83) (.k (.int .i64 (1))))))⟩, (.mk 0 [])), (⟨5, (.some 87), .none, (.o (.s (.mv (.t 1))))⟩, (.mk 0 [])), (⟨6, (.some 88), .none,
    (.o (.s (.mv (.t 8))))⟩, (.mk 0 [])), (⟨7, (.some 89), .none, (.o (.s (.bin .sub (.t 88) (.k (.int .i64 (1))))))⟩, (.mk 0 [])), (⟨3, (.some 85), .none,
    (.o (.s (.ia 1 (.t 82) (.t 84))))⟩, (.mk 1 [])), (⟨4, (.some 86), .none, (.o (.s (.load .none (.t 85))))⟩, (.mk 1 [])), (⟨8, (.some 90), .none, (.o (.s (.ia 1 (.t 87)
    (.t 89))))⟩, (.mk 1 [])), (⟨9, (.some 91), .none, (.o (.s (.load .none (.t 90))))⟩, (.mk 1 [])), (⟨10, (.some 92), .none, (.o (.s (.bin .eql (.t 86) (.t 91))))⟩,
    (.mk 0 [])), (⟨11, (.some 93), .none, (.o (.s (.mv (.t 92))))⟩, (.mk 0 [])), (⟨12, (.some 94), (.some (93, .true)), (.o (.s (.mv (.t 5))))⟩, (.mk 0 [])), (⟨13,
    (.some 95), (.some (93, .true)), (.o (.s (.mv (.t 7))))⟩, (.mk 0 [])), (⟨14, (.some 96), (.some (93, .true)), (.o (.s (.bin .sub (.t 95) (.k (.int .i64 (1))))))⟩,
    (.mk 0 [])), (⟨17, (.some 99), (.some (93, .true)), (.o (.s (.mv (.t 8))))⟩, (.mk 0 [])), (⟨18, (.some 100), (.some (93, .true)), (.o (.s (.bin .sub (.t 99)
    (.k (.int .i64 (1))))))⟩, (.mk 0 [])), (⟨22, (.some 104), (.some (93, .true)), (.o (.s (.mv (.t 5))))⟩, (.mk 0 [])), (⟨23, (.some 105), (.some (93, .true)),
    (.o (.s (.mv (.t 7))))⟩, (.mk 0 [])), (⟨26, (.some 108), (.some (93, .true)), (.o (.s (.mv (.t 8))))⟩, (.mk 0 [])), (⟨15, (.some 97), (.some (93, .true)),
    (.lia 0 1 (.t 94) (.t 96))⟩, (.mk 1 [])), (⟨16, (.some 98), (.some (93, .true)), (.lload 0 .none (.t 97))⟩, (.mk 1 [])), (⟨19, (.some 101), (.some (93, .true)),
    (.o (.s (.ia 1 (.t 98) (.t 100))))⟩, (.mk 1 [])), (⟨20, (.some 102), (.some (93, .true)), (.o (.s (.load .none (.t 101))))⟩, (.mk 1 [])), (⟨21, (.some 103),
    (.some (93, .true)), (.o (.s (.bin .add (.t 102) (.k (.int .i64 (1))))))⟩, (.mk 0 [])), (⟨24, (.some 106), (.some (93, .true)), (.lia 0 1 (.t 104) (.t 105))⟩,
    (.mk 1 [])), (⟨25, (.some 107), (.some (93, .true)), (.lload 0 .none (.t 106))⟩, (.mk 1 [])), (⟨27, (.some 109), (.some (93, .true)), (.o (.s (.ia 1 (.t 107)
    (.t 108))))⟩, (.mk 1 [])), (⟨28, (.some 110), (.some (93, .true)), (.o (.s (.load .none (.t 109))))⟩, (.mk 1 [])), (⟨29, (.some 111), (.some (93, .true)),
    (.o (.s (.bin .gtr (.t 103) (.t 110))))⟩, (.mk 0 [])), (⟨30, (.some 112), .none, (.o (.s (.pick (.t 93) (.t 111) (.k (.bool .false)))))⟩, (.mk 0 []))]) (.cond (.t 112)
    (.dops 17 [(⟨0, (.some 113), .none, (.o (.s (.mv (.t 5))))⟩, (.mk 0 [])), (⟨1, (.some 114), .none, (.o (.s (.mv (.t 7))))⟩, (.mk 0 [])), (⟨4, (.some 117), .none,
    (.o (.s (.mv (.t 8))))⟩, (.mk 0 [])), (⟨5, (.some 118), .none, (.o (.s (.mv (.t 5))))⟩, (.mk 0 [])), (⟨6, (.some 119), .none, (.o (.s (.mv (.t 7))))⟩, (.mk 0 [])),
    (⟨7, (.some 120), .none, (.o (.s (.bin .sub (.t 119) (.k (.int .i64 (1))))))⟩, (.mk 0 [])), (⟨10, (.some 123), .none, (.o (.s (.mv (.t 8))))⟩, (.mk 0 [])), (⟨11,
    (.some 124), .none, (.o (.s (.bin .sub (.t 123) (.k (.int .i64 (1))))))⟩, (.mk 0 [])), (⟨2, (.some 115), .none, (.lia 0 1 (.t 113) (.t 114))⟩, (.mk 1 [])), (⟨3,
    (.some 116), .none, (.lload 0 .none (.t 115))⟩, (.mk 1 [])), (⟨8, (.some 121), .none, (.lia 0 1 (.t 118) (.t 120))⟩, (.mk 1 [])), (⟨9, (.some 122), .none,
    (.lload 0 .none (.t 121))⟩, (.mk 1 [])), (⟨12, (.some 125), .none, (.o (.s (.ia 1 (.t 122) (.t 124))))⟩, (.mk 1 [])), (⟨13, (.some 126), .none,
    (.o (.s (.load .none (.t 125))))⟩, (.mk 1 [])), (⟨14, (.some 127), .none, (.o (.s (.bin .add (.t 126) (.k (.int .i64 (1))))))⟩, (.mk 0 [])), (⟨15, (.some 128), .none,
    (.o (.s (.ia 1 (.t 116) (.t 117))))⟩, (.mk 1 [])), (⟨16, .none, .none, (.o (.s (.store 1 (.t 128) (.t 127))))⟩, (.mk 2 []))]) .skip))))) (.ops 3 [⟨0, (.some 36),
    .none, (.o (.s (.mv (.t 8))))⟩, ⟨1, (.some 37), .none, (.o (.s (.bin .add (.t 36) (.k (.int .i64 (1))))))⟩, ⟨2, (.some 8), .none, (.o (.s (.mv (.t 37))))⟩])))
theorem F13l0w : F13l0.wf = true := by kernel_rfl
def F13l1 : S2 :=
  (.seq (.seq (.ops 4 [⟨0, (.some 26), .none, (.o (.s (.mv (.t 7))))⟩, ⟨1, (.some 27), .none, (.o (.s (.mv (.t 0))))⟩, ⟨2, (.some 28), .none, (.o (.s (.len (.t 27))))⟩, ⟨3,
    (.some 29), .none, (.o (.s (.bin .leq (.t 26) (.t 28))))⟩]) (.cond (.t 29) .skip (.exit 2))) (.seq (.block 3 (.seq (.ops 1 [⟨0, (.some 8), .none,
    (.o (.s (.mv (.k (.int .i64 (1))))))⟩]) (.block 4 (.loop F13l0)))) (.ops 3 [⟨0, (.some 30), .none, (.o (.s (.mv (.t 7))))⟩, ⟨1, (.some 31), .none,
    (.o (.s (.bin .add (.t 30) (.k (.int .i64 (1))))))⟩, ⟨2, (.some 7), .none, (.o (.s (.mv (.t 31))))⟩])))
theorem F13l1w : F13l1.wf = true := by kernel_rfl
def F13l2 : S2 :=
  (.seq (.seq (.ops 4 [⟨0, (.some 13), .none, (.o (.s (.mv (.t 6))))⟩, ⟨1, (.some 14), .none, (.o (.s (.mv (.t 0))))⟩, ⟨2, (.some 15), .none, (.o (.s (.len (.t 14))))⟩, ⟨3,
    (.some 16), .none, (.o (.s (.bin .leq (.t 13) (.t 15))))⟩]) (.cond (.t 16) .skip (.exit 0))) (.seq (.block 1 (.ops 8 [⟨0, (.some 19), .none, (.o (.s (.mv (.t 5))))⟩,
    ⟨1, (.some 20), .none, (.o (.s (.mv (.t 6))))⟩, ⟨2, (.some 21), .none, (.o (.s (.mv (.t 1))))⟩, ⟨3, (.some 22), .none, (.o (.s (.len (.t 21))))⟩, ⟨4, (.some 23),
    .none, (.o (.s (.bin .add (.t 22) (.k (.int .i64 (1))))))⟩, ⟨5, (.some 24), .none, (.o (.s (.mks 3 1 8 [(.int .i64 (0))] (.t 23) (.t 23) .true)))⟩, ⟨6, (.some 25),
    .none, (.lia 0 1 (.t 19) (.t 20))⟩, ⟨7, .none, .none, (.lstore 0 1 (.t 25) (.t 24))⟩])) (.ops 3 [⟨0, (.some 17), .none, (.o (.s (.mv (.t 6))))⟩, ⟨1, (.some 18), .none,
    (.o (.s (.bin .add (.t 17) (.k (.int .i64 (1))))))⟩, ⟨2, (.some 6), .none, (.o (.s (.mv (.t 18))))⟩])))
theorem F13l2w : F13l2.wf = true := by kernel_rfl
def F13s : S2 :=
  (.seq (.ops 1 [⟨0, (.some 4), .none, (.o (.s (.mv (.k (.int .i64 (0))))))⟩]) (.seq (.ops 5 [⟨0, (.some 9), .none, (.o (.s (.mv (.t 0))))⟩, ⟨1, (.some 10), .none,
    (.o (.s (.len (.t 9))))⟩, ⟨2, (.some 11), .none, (.o (.s (.bin .add (.t 10) (.k (.int .i64 (1))))))⟩, ⟨3, (.some 12), .none, (.lmks 0 22 1 24 [.nils] (.t 11) (.t 11)
    .true)⟩, ⟨4, (.some 5), .none, (.o (.s (.mv (.t 12))))⟩]) (.seq (.seq (.ops 1 [⟨0, (.some 6), .none, (.o (.s (.mv (.k (.int .i64 (0))))))⟩]) (.block 0 (.loop F13l2)))
    (.seq (.seq (.ops 1 [⟨0, (.some 7), .none, (.o (.s (.mv (.k (.int .i64 (1))))))⟩]) (.block 2 (.loop F13l1))) (.seq (.ops 10 [⟨0, (.some 129), .none,
    (.o (.s (.mv (.t 5))))⟩, ⟨1, (.some 130), .none, (.o (.s (.mv (.t 0))))⟩, ⟨2, (.some 131), .none, (.o (.s (.len (.t 130))))⟩, ⟨3, (.some 132), .none,
    (.lia 0 1 (.t 129) (.t 131))⟩, ⟨4, (.some 133), .none, (.lload 0 .none (.t 132))⟩, ⟨5, (.some 134), .none, (.o (.s (.mv (.t 1))))⟩, ⟨6, (.some 135), .none,
    (.o (.s (.len (.t 134))))⟩, ⟨7, (.some 136), .none, (.o (.s (.ia 1 (.t 133) (.t 135))))⟩, ⟨8, (.some 137), .none, (.o (.s (.load .none (.t 136))))⟩, ⟨9, (.some 4),
    .none, (.o (.s (.mv (.t 137))))⟩]) .ret)))))
noncomputable def F13b : Go.Code := Go.Proofs.Try.f13.body.getD .skip
theorem F13c : comp C [(1, 3), (5, 5)] F13b = some F13s.er := by kernel_rfl
theorem F13w : F13s.wf = true := by kernel_rfl
theorem F13d : Go.Proofs.Try.f13.body = some F13b := by kernel_rfl
@[simp] def F13q : List RV2 := [(.o (.tmp 4))]
theorem F13r : compRVs C Go.Proofs.Try.f13.results.toList = some (F13q.map RV2.er) := by kernel_rfl
theorem F13e : Enters Go.Proofs.Try.prog 13 := enters_of Go.Proofs.Try.func13 (by kernel_rfl) (by kernel_rfl)

/-- scarf/scarfref03.Same --  -/
def F14l0 : S2 :=
  (.seq (.seq (.ops 4 [⟨0, (.some 11), .none, (.o (.s (.mv (.t 5))))⟩, ⟨1, (.some 12), .none, (.o (.s (.mv (.t 0))))⟩, ⟨2, (.some 13), .none, (.o (.s (.len (.t 12))))⟩, ⟨3,
    (.some 14), .none, (.o (.s (.bin .lss (.t 11) (.t 13))))⟩]) (.cond (.t 14) .skip (.exit 0))) (.seq (.block 1 (.seq (.dops 9 [(⟨0, (.some 17), .none,
    (.o (.s (.mv (.t 0))))⟩, (.mk 0 [])), (⟨1, (.some 18), .none, (.o (.s (.mv (.t 5))))⟩, (.mk 0 [])), (⟨4, (.some 21), .none, (.o (.s (.mv (.t 1))))⟩, (.mk 0 [])), (⟨5,
    (.some 22), .none, (.o (.s (.mv (.t 5))))⟩, (.mk 0 [])), (⟨2, (.some 19), .none, (.o (.s (.ia 1 (.t 17) (.t 18))))⟩, (.mk 1 [])), (⟨3, (.some 20), .none,
    (.o (.s (.load .none (.t 19))))⟩, (.mk 1 [])), (⟨6, (.some 23), .none, (.o (.s (.ia 1 (.t 21) (.t 22))))⟩, (.mk 1 [])), (⟨7, (.some 24), .none,
    (.o (.s (.load .none (.t 23))))⟩, (.mk 1 [])), (⟨8, (.some 25), .none, (.o (.s (.bin .neq (.t 20) (.t 24))))⟩, (.mk 0 []))]) (.cond (.t 25) (.seq (.ops 1 [⟨0,
    (.some 4), .none, (.o (.s (.mv (.k (.bool .false)))))⟩]) .ret) .skip))) (.ops 3 [⟨0, (.some 15), .none, (.o (.s (.mv (.t 5))))⟩, ⟨1, (.some 16), .none,
    (.o (.s (.bin .add (.t 15) (.k (.int .i64 (1))))))⟩, ⟨2, (.some 5), .none, (.o (.s (.mv (.t 16))))⟩])))
theorem F14l0w : F14l0.wf = true := by kernel_rfl
def F14s : S2 :=
  (.seq (.ops 1 [⟨0, (.some 4), .none, (.o (.s (.mv (.k (.bool .false)))))⟩]) (.seq (.seq (.ops 5 [⟨0, (.some 6), .none, (.o (.s (.mv (.t 0))))⟩, ⟨1, (.some 7), .none,
    (.o (.s (.len (.t 6))))⟩, ⟨2, (.some 8), .none, (.o (.s (.mv (.t 1))))⟩, ⟨3, (.some 9), .none, (.o (.s (.len (.t 8))))⟩, ⟨4, (.some 10), .none,
    (.o (.s (.bin .neq (.t 7) (.t 9))))⟩]) (.cond (.t 10) (.seq (.ops 1 [⟨0, (.some 4), .none, (.o (.s (.mv (.k (.bool .false)))))⟩]) .ret) .skip))
    (.seq (.seq (.ops 1 [⟨0, (.some 5), .none, (.o (.s (.mv (.k (.int .i64 (0))))))⟩]) (.block 0 (.loop F14l0))) (.seq (.ops 1 [⟨0, (.some 4), .none,
    (.o (.s (.mv (.k (.bool .true)))))⟩]) .ret))))
noncomputable def F14b : Go.Code := Go.Proofs.Try.f14.body.getD .skip
theorem F14c : comp C [] F14b = some F14s.er := by kernel_rfl
theorem F14w : F14s.wf = true := by kernel_rfl
theorem F14d : Go.Proofs.Try.f14.body = some F14b := by kernel_rfl
@[simp] def F14q : List RV2 := [(.o (.tmp 4))]
theorem F14r : compRVs C Go.Proofs.Try.f14.results.toList = some (F14q.map RV2.er) := by kernel_rfl
theorem F14e : Enters Go.Proofs.Try.prog 14 := enters_of Go.Proofs.Try.func14 (by kernel_rfl) (by kernel_rfl)

/-- scarf/myers.Right -- 0: box t7; 1: box t9 -/
def F15l0 : S2 :=
  (.seq (.ops 1 [⟨0, (.some 14), .none, (.o (.s (.bin .lss (.t 13) (.t 12))))⟩]) (.seq (.cond (.t 14) .skip (.exit 0)) (.seq (.block 1 (.seq (.ops 4 [⟨0, (.some 15), .none,
    (.o (.s (.ia 2 (.t 11) (.t 13))))⟩, ⟨1, (.some 16), .none, (.o (.s (.load (.some 2) (.t 15))))⟩, ⟨2, (.some 9), .none, (.lalloc 1 34 [(.int .i64 (0)),
    (.int .i64 (0))])⟩, ⟨3, .none, .none, (.lstore 1 2 (.t 9) (.t 16))⟩]) (.seq (.seq (.dops 39 [(⟨0, (.some 17), .none, (.o (.s (.iaa 2 1 (.t 9) (.k (.int .i64 (0))))))⟩,
    (.mk 0 [])), (⟨2, (.some 19), .none, (.o (.s (.iaa 2 1 (.t 7) (.k (.int .i64 (0))))))⟩, (.mk 0 [])), (⟨1, (.some 18), .none, (.lload 1 .none (.t 17))⟩, (.mk 1 [])),
    (⟨3, (.some 20), .none, (.lload 0 .none (.t 19))⟩, (.mk 1 [])), (⟨4, (.some 21), .none, (.o (.s (.bin .leq (.t 18) (.t 20))))⟩, (.mk 0 [])), (⟨5, (.some 22), .none,
    (.o (.s (.mv (.t 21))))⟩, (.mk 0 [])), (⟨6, (.some 23), (.some (22, .false)), (.o (.s (.iaa 2 1 (.t 9) (.k (.int .i64 (1))))))⟩, (.mk 0 [])), (⟨8, (.some 25),
    (.some (22, .false)), (.o (.s (.iaa 2 1 (.t 7) (.k (.int .i64 (1))))))⟩, (.mk 0 [])), (⟨7, (.some 24), (.some (22, .false)), (.lload 1 .none (.t 23))⟩, (.mk 1 [])),
    (⟨9, (.some 26), (.some (22, .false)), (.lload 0 .none (.t 25))⟩, (.mk 1 [])), (⟨10, (.some 27), (.some (22, .false)), (.o (.s (.bin .leq (.t 24) (.t 26))))⟩,
    (.mk 0 [])), (⟨11, (.some 28), .none, (.o (.s (.pick (.t 22) (.k (.bool .true)) (.t 27))))⟩, (.mk 0 [])), (⟨12, (.some 29), .none, (.o (.s (.mv (.t 28))))⟩,
    (.mk 0 [])), (⟨13, (.some 30), (.some (29, .false)), (.o (.s (.iaa 2 1 (.t 9) (.k (.int .i64 (0))))))⟩, (.mk 0 [])), (⟨15, (.some 32), (.some (29, .false)),
    (.o (.s (.mv (.t 0))))⟩, (.mk 0 [])), (⟨16, (.some 33), (.some (29, .false)), (.o (.s (.len (.t 32))))⟩, (.mk 0 [])), (⟨14, (.some 31), (.some (29, .false)),
    (.lload 1 .none (.t 30))⟩, (.mk 1 [])), (⟨17, (.some 34), (.some (29, .false)), (.o (.s (.bin .geq (.t 31) (.t 33))))⟩, (.mk 0 [])), (⟨18, (.some 35), .none,
    (.o (.s (.pick (.t 29) (.k (.bool .true)) (.t 34))))⟩, (.mk 0 [])), (⟨19, (.some 36), .none, (.o (.s (.mv (.t 35))))⟩, (.mk 0 [])), (⟨20, (.some 37), (.some (36,
    .false)), (.o (.s (.iaa 2 1 (.t 9) (.k (.int .i64 (1))))))⟩, (.mk 0 [])), (⟨22, (.some 39), (.some (36, .false)), (.o (.s (.mv (.t 1))))⟩, (.mk 0 [])), (⟨23,
    (.some 40), (.some (36, .false)), (.o (.s (.len (.t 39))))⟩, (.mk 0 [])), (⟨21, (.some 38), (.some (36, .false)), (.lload 1 .none (.t 37))⟩, (.mk 1 [])), (⟨24,
    (.some 41), (.some (36, .false)), (.o (.s (.bin .geq (.t 38) (.t 40))))⟩, (.mk 0 [])), (⟨25, (.some 42), .none, (.o (.s (.pick (.t 36) (.k (.bool .true)) (.t 41))))⟩,
    (.mk 0 [])), (⟨26, (.some 43), .none, (.o (.s (.mv (.t 42))))⟩, (.mk 0 [])), (⟨27, (.some 44), (.some (43, .false)), (.o (.s (.mv (.t 0))))⟩, (.mk 0 [])), (⟨28,
    (.some 45), (.some (43, .false)), (.o (.s (.iaa 2 1 (.t 9) (.k (.int .i64 (0))))))⟩, (.mk 0 [])), (⟨32, (.some 49), (.some (43, .false)), (.o (.s (.mv (.t 1))))⟩,
    (.mk 0 [])), (⟨33, (.some 50), (.some (43, .false)), (.o (.s (.iaa 2 1 (.t 9) (.k (.int .i64 (1))))))⟩, (.mk 0 [])), (⟨29, (.some 46), (.some (43, .false)),
    (.lload 1 .none (.t 45))⟩, (.mk 1 [])), (⟨30, (.some 47), (.some (43, .false)), (.o (.s (.ia 1 (.t 44) (.t 46))))⟩, (.mk 1 [])), (⟨31, (.some 48), (.some (43,
    .false)), (.o (.s (.load .none (.t 47))))⟩, (.mk 1 [])), (⟨34, (.some 51), (.some (43, .false)), (.lload 1 .none (.t 50))⟩, (.mk 1 [])), (⟨35, (.some 52), (.some (43,
    .false)), (.o (.s (.ia 1 (.t 49) (.t 51))))⟩, (.mk 1 [])), (⟨36, (.some 53), (.some (43, .false)), (.o (.s (.load .none (.t 52))))⟩, (.mk 1 [])), (⟨37, (.some 54),
    (.some (43, .false)), (.o (.s (.bin .neq (.t 48) (.t 53))))⟩, (.mk 0 [])), (⟨38, (.some 55), .none, (.o (.s (.pick (.t 43) (.k (.bool .true)) (.t 54))))⟩,
    (.mk 0 []))]) (.cond (.t 55) (.seq (.ops 1 [⟨0, (.some 6), .none, (.o (.s (.mv (.k (.bool .false)))))⟩]) .ret) .skip)) (.ops 2 [⟨0, (.some 56), .none,
    (.lload 1 (.some 2) (.t 9))⟩, ⟨1, .none, .none, (.lstore 0 2 (.t 7) (.t 56))⟩])))) (.ops 2 [⟨0, (.some 57), .none, (.o (.s (.bin .add (.t 13) (.k (.int .i64 (1))))))⟩,
    ⟨1, (.some 13), .none, (.o (.s (.mv (.t 57))))⟩]))))
theorem F15l0w : F15l0.wf = true := by kernel_rfl
def F15s : S2 :=
  (.seq (.ops 1 [⟨0, (.some 6), .none, (.o (.s (.mv (.k (.bool .false)))))⟩]) (.seq (.ops 3 [⟨0, (.some 10), .none, (.o (.s (.build [(.int .i64 (0)), (.int .i64 (0))] [(0,
    (1, (.k (.int .i64 (-1))))), (1, (1, (.k (.int .i64 (-1)))))])))⟩, ⟨1, (.some 7), .none, (.lalloc 0 34 [(.int .i64 (0)), (.int .i64 (0))])⟩, ⟨2, .none, .none,
    (.lstore 0 2 (.t 7) (.t 10))⟩]) (.seq (.seq (.ops 3 [⟨0, (.some 11), .none, (.o (.s (.mv (.t 2))))⟩, ⟨1, (.some 12), .none, (.o (.s (.len (.t 11))))⟩, ⟨2, (.some 13),
    .none, (.o (.s (.mv (.k (.int .i64 (0))))))⟩]) (.block 0 (.loop F15l0))) (.seq (.ops 1 [⟨0, (.some 6), .none, (.o (.s (.mv (.k (.bool .true)))))⟩]) .ret))))
noncomputable def F15b : Go.Code := Go.Proofs.Try.f15.body.getD .skip
theorem F15c : comp C [] F15b = some F15s.er := by kernel_rfl
theorem F15w : F15s.wf = true := by kernel_rfl
theorem F15d : Go.Proofs.Try.f15.body = some F15b := by kernel_rfl
@[simp] def F15q : List RV2 := [(.o (.tmp 6))]
theorem F15r : compRVs C Go.Proofs.Try.f15.results.toList = some (F15q.map RV2.er) := by kernel_rfl
theorem F15e : Enters Go.Proofs.Try.prog 15 := enters_of Go.Proofs.Try.func15 (by kernel_rfl) (by kernel_rfl)

/-- scarf/myers.Numbers -- 0: grows t2 t4 t45 t48 t50; 1: grows t7 t40 t43 t46 -/
def F16l0 : S2 :=
  (.seq (.ops 1 [⟨0, (.some 22), .none, (.o (.s (.bin .lss (.t 21) (.t 20))))⟩]) (.seq (.cond (.t 22) .skip (.exit 2)) (.seq (.block 3 (.seq (.ops 3 [⟨0, (.some 23), .none,
    (.o (.s (.ia 1 (.t 19) (.t 21))))⟩, ⟨1, (.some 24), .none, (.o (.s (.load .none (.t 23))))⟩, ⟨2, (.some 9), .none, (.o (.s (.mv (.t 24))))⟩]) (.seq (.ops 9 [⟨0,
    (.some 26), .none, (.o (.s (.mv (.t 3))))⟩, ⟨1, (.some 27), .none, (.o (.s (.mv (.t 9))))⟩, ⟨2, (.some 28), .none, (.o (.s (.b2s (.t 27))))⟩, ⟨3, (.some 29), .none,
    (.o (.s (.look .str (.int .i64 (0)) .true (.t 26) (.t 28))))⟩, ⟨4, (.some 25), .none, (.o (.s (.mv (.t 29))))⟩, ⟨5, (.some 30), .none, (.o (.s (.ext (.t 25) 0)))⟩, ⟨6,
    (.some 31), .none, (.o (.s (.ext (.t 25) 1)))⟩, ⟨7, (.some 10), .none, (.o (.s (.mv (.t 30))))⟩, ⟨8, (.some 11), .none, (.o (.s (.mv (.t 31))))⟩])
    (.seq (.seq (.ops 2 [⟨0, (.some 32), .none, (.o (.s (.mv (.t 11))))⟩, ⟨1, (.some 33), .none, (.o (.s (.un .not (.t 32))))⟩]) (.cond (.t 33) (.seq (.ops 3 [⟨0,
    (.some 34), .none, (.o (.s (.mv (.t 3))))⟩, ⟨1, (.some 35), .none, (.o (.s (.mlen (.t 34))))⟩, ⟨2, (.some 10), .none, (.o (.s (.mv (.t 35))))⟩]) (.ops 5 [⟨0,
    (.some 36), .none, (.o (.s (.mv (.t 3))))⟩, ⟨1, (.some 37), .none, (.o (.s (.mv (.t 9))))⟩, ⟨2, (.some 38), .none, (.o (.s (.b2s (.t 37))))⟩, ⟨3, (.some 39), .none,
    (.o (.s (.mv (.t 10))))⟩, ⟨4, .none, .none, (.o (.s (.mput .str (.t 36) (.t 38) (.t 39))))⟩])) .skip)) (.ops 5 [⟨0, (.some 40), .none, (.o (.s (.mv (.t 7))))⟩, ⟨1,
    (.some 41), .none, (.o (.s (.mv (.t 10))))⟩, ⟨2, (.some 42), .none, (.lbsl 2 3 1 1 [(.int .i64 (0))] [(0, (.t 41))] .false)⟩, ⟨3, (.some 43), .none,
    (.lapp 1 3 1 8 (.t 40) (.t 42))⟩, ⟨4, (.some 7), .none, (.o (.s (.mv (.t 43))))⟩]))))) (.ops 2 [⟨0, (.some 44), .none, (.o (.s (.bin .add (.t 21)
    (.k (.int .i64 (1))))))⟩, ⟨1, (.some 21), .none, (.o (.s (.mv (.t 44))))⟩]))))
theorem F16l0w : F16l0.wf = true := by kernel_rfl
def F16l1 : S2 :=
  (.seq (.ops 1 [⟨0, (.some 16), .none, (.o (.s (.bin .lss (.t 15) (.t 14))))⟩]) (.seq (.cond (.t 16) .skip (.exit 0)) (.seq (.block 1 (.seq (.ops 3 [⟨0, (.some 17), .none,
    (.o (.s (.ia 1 (.t 13) (.t 15))))⟩, ⟨1, (.some 18), .none, (.o (.s (.load .none (.t 17))))⟩, ⟨2, (.some 6), .none, (.o (.s (.mv (.t 18))))⟩]) (.seq (.ops 1 [⟨0,
    (.some 7), .none, (.o (.s (.mv (.k .nils))))⟩]) (.seq (.seq (.ops 3 [⟨0, (.some 19), .none, (.o (.s (.mv (.t 6))))⟩, ⟨1, (.some 20), .none, (.o (.s (.len (.t 19))))⟩,
    ⟨2, (.some 21), .none, (.o (.s (.mv (.k (.int .i64 (0))))))⟩]) (.block 2 (.loop F16l0))) (.ops 5 [⟨0, (.some 45), .none, (.o (.s (.mv (.t 4))))⟩, ⟨1, (.some 46),
    .none, (.o (.s (.mv (.t 7))))⟩, ⟨2, (.some 47), .none, (.lbsl 2 22 1 1 [.nils] [(0, (.t 46))] .false)⟩, ⟨3, (.some 48), .none, (.lapp 0 22 1 24 (.t 45) (.t 47))⟩, ⟨4,
    (.some 4), .none, (.o (.s (.mv (.t 48))))⟩]))))) (.ops 2 [⟨0, (.some 49), .none, (.o (.s (.bin .add (.t 15) (.k (.int .i64 (1))))))⟩, ⟨1, (.some 15), .none,
    (.o (.s (.mv (.t 49))))⟩]))))
theorem F16l1w : F16l1.wf = true := by kernel_rfl
def F16s : S2 :=
  (.seq (.ops 1 [⟨0, (.some 2), .none, (.o (.s (.mv (.k .nils))))⟩]) (.seq (.ops 2 [⟨0, (.some 12), .none, (.o (.s (.mkm .none)))⟩, ⟨1, (.some 3), .none,
    (.o (.s (.mv (.t 12))))⟩]) (.seq (.ops 1 [⟨0, (.some 4), .none, (.o (.s (.mv (.k .nils))))⟩]) (.seq (.seq (.ops 3 [⟨0, (.some 13), .none, (.o (.s (.mv (.t 0))))⟩, ⟨1,
    (.some 14), .none, (.o (.s (.len (.t 13))))⟩, ⟨2, (.some 15), .none, (.o (.s (.mv (.k (.int .i64 (0))))))⟩]) (.block 0 (.loop F16l1))) (.seq (.ops 2 [⟨0, (.some 50),
    .none, (.o (.s (.mv (.t 4))))⟩, ⟨1, (.some 2), .none, (.o (.s (.mv (.t 50))))⟩]) .ret)))))
noncomputable def F16b : Go.Code := Go.Proofs.Try.f16.body.getD .skip
theorem F16c : comp C [] F16b = some F16s.er := by kernel_rfl
theorem F16w : F16s.wf = true := by kernel_rfl
theorem F16d : Go.Proofs.Try.f16.body = some F16b := by kernel_rfl
@[simp] def F16q : List RV2 := [(.o (.tmp 2))]
theorem F16r : compRVs C Go.Proofs.Try.f16.results.toList = some (F16q.map RV2.er) := by kernel_rfl
theorem F16e : Enters Go.Proofs.Try.prog 16 := enters_of Go.Proofs.Try.func16 (by kernel_rfl) (by kernel_rfl)

/-- scarf/scarfref16.Numbers -- 0: grows t3 t25 t29 t46 t49 t59; 1: grows t2 t4 t64 t67 t68; 2: grows t6 t60 t63 t65 -/
def F17l0 : S2 :=
  (.seq (.seq (.dops 19 [(⟨0, (.some 24), .none, (.o (.s (.mv (.t 8))))⟩, (.mk 0 [])), (⟨1, (.some 25), .none, (.o (.s (.mv (.t 3))))⟩, (.mk 0 [])), (⟨2, (.some 26), .none,
    (.o (.s (.len (.t 25))))⟩, (.mk 0 [])), (⟨3, (.some 27), .none, (.o (.s (.bin .lss (.t 24) (.t 26))))⟩, (.mk 0 [])), (⟨4, (.some 28), .none, (.o (.s (.mv (.t 27))))⟩,
    (.mk 0 [])), (⟨5, (.some 29), (.some (28, .true)), (.o (.s (.mv (.t 3))))⟩, (.mk 0 [])), (⟨6, (.some 30), (.some (28, .true)), (.o (.s (.mv (.t 8))))⟩, (.mk 0 [])),
    (⟨9, (.some 33), (.some (28, .true)), (.o (.s (.mv (.t 0))))⟩, (.mk 0 [])), (⟨10, (.some 34), (.some (28, .true)), (.o (.s (.mv (.t 5))))⟩, (.mk 0 [])), (⟨13,
    (.some 37), (.some (28, .true)), (.o (.s (.mv (.t 7))))⟩, (.mk 0 [])), (⟨7, (.some 31), (.some (28, .true)), (.o (.s (.ia 1 (.t 29) (.t 30))))⟩, (.mk 1 [])), (⟨8,
    (.some 32), (.some (28, .true)), (.o (.s (.load .none (.t 31))))⟩, (.mk 1 [])), (⟨11, (.some 35), (.some (28, .true)), (.o (.s (.ia 1 (.t 33) (.t 34))))⟩, (.mk 1 [])),
    (⟨12, (.some 36), (.some (28, .true)), (.o (.s (.load .none (.t 35))))⟩, (.mk 1 [])), (⟨14, (.some 38), (.some (28, .true)), (.o (.s (.ia 1 (.t 36) (.t 37))))⟩,
    (.mk 1 [])), (⟨15, (.some 39), (.some (28, .true)), (.o (.s (.load .none (.t 38))))⟩, (.mk 1 [])), (⟨16, (.some 40), (.some (28, .true)), (.o (.s (.b2s (.t 39))))⟩,
    (.mk 1 [])), (⟨17, (.some 41), (.some (28, .true)), (.o (.s (.bin .neq (.t 32) (.t 40))))⟩, (.mk 0 [])), (⟨18, (.some 42), .none, (.o (.s (.pick (.t 28) (.t 41)
    (.k (.bool .false)))))⟩, (.mk 0 []))]) (.cond (.t 42) .skip (.exit 4))) (.block 5 (.ops 3 [⟨0, (.some 43), .none, (.o (.s (.mv (.t 8))))⟩, ⟨1, (.some 44), .none,
    (.o (.s (.bin .add (.t 43) (.k (.int .i64 (1))))))⟩, ⟨2, (.some 8), .none, (.o (.s (.mv (.t 44))))⟩])))
theorem F17l0w : F17l0.wf = true := by kernel_rfl
def F17l1 : S2 :=
  (.seq (.seq (.ops 7 [⟨0, (.some 15), .none, (.o (.s (.mv (.t 7))))⟩, ⟨1, (.some 16), .none, (.o (.s (.mv (.t 0))))⟩, ⟨2, (.some 17), .none, (.o (.s (.mv (.t 5))))⟩, ⟨3,
    (.some 18), .none, (.o (.s (.ia 1 (.t 16) (.t 17))))⟩, ⟨4, (.some 19), .none, (.o (.s (.load .none (.t 18))))⟩, ⟨5, (.some 20), .none, (.o (.s (.len (.t 19))))⟩, ⟨6,
    (.some 21), .none, (.o (.s (.bin .lss (.t 15) (.t 20))))⟩]) (.cond (.t 21) .skip (.exit 2))) (.seq (.block 3 (.seq (.ops 1 [⟨0, (.some 8), .none,
    (.o (.s (.mv (.k (.int .i64 (0))))))⟩]) (.seq (.block 4 (.loop F17l0)) (.seq (.seq (.ops 4 [⟨0, (.some 45), .none, (.o (.s (.mv (.t 8))))⟩, ⟨1, (.some 46), .none,
    (.o (.s (.mv (.t 3))))⟩, ⟨2, (.some 47), .none, (.o (.s (.len (.t 46))))⟩, ⟨3, (.some 48), .none, (.o (.s (.bin .eql (.t 45) (.t 47))))⟩]) (.cond (.t 48) (.ops 12 [⟨0,
    (.some 49), .none, (.o (.s (.mv (.t 3))))⟩, ⟨1, (.some 50), .none, (.o (.s (.mv (.t 0))))⟩, ⟨2, (.some 51), .none, (.o (.s (.mv (.t 5))))⟩, ⟨3, (.some 52), .none,
    (.o (.s (.ia 1 (.t 50) (.t 51))))⟩, ⟨4, (.some 53), .none, (.o (.s (.load .none (.t 52))))⟩, ⟨5, (.some 54), .none, (.o (.s (.mv (.t 7))))⟩, ⟨6, (.some 55), .none,
    (.o (.s (.ia 1 (.t 53) (.t 54))))⟩, ⟨7, (.some 56), .none, (.o (.s (.load .none (.t 55))))⟩, ⟨8, (.some 57), .none, (.o (.s (.b2s (.t 56))))⟩, ⟨9, (.some 58), .none,
    (.lbsl 3 9 1 1 [(.str [])] [(0, (.t 57))] .false)⟩, ⟨10, (.some 59), .none, (.lapp 0 9 1 16 (.t 49) (.t 58))⟩, ⟨11, (.some 3), .none, (.o (.s (.mv (.t 59))))⟩])
    .skip)) (.ops 5 [⟨0, (.some 60), .none, (.o (.s (.mv (.t 6))))⟩, ⟨1, (.some 61), .none, (.o (.s (.mv (.t 8))))⟩, ⟨2, (.some 62), .none,
    (.lbsl 3 3 1 1 [(.int .i64 (0))] [(0, (.t 61))] .false)⟩, ⟨3, (.some 63), .none, (.lapp 2 3 1 8 (.t 60) (.t 62))⟩, ⟨4, (.some 6), .none, (.o (.s (.mv (.t 63))))⟩])))))
    (.ops 3 [⟨0, (.some 22), .none, (.o (.s (.mv (.t 7))))⟩, ⟨1, (.some 23), .none, (.o (.s (.bin .add (.t 22) (.k (.int .i64 (1))))))⟩, ⟨2, (.some 7), .none,
    (.o (.s (.mv (.t 23))))⟩])))
theorem F17l1w : F17l1.wf = true := by kernel_rfl
def F17l2 : S2 :=
  (.seq (.seq (.ops 4 [⟨0, (.some 9), .none, (.o (.s (.mv (.t 5))))⟩, ⟨1, (.some 10), .none, (.o (.s (.mv (.t 0))))⟩, ⟨2, (.some 11), .none, (.o (.s (.len (.t 10))))⟩, ⟨3,
    (.some 12), .none, (.o (.s (.bin .lss (.t 9) (.t 11))))⟩]) (.cond (.t 12) .skip (.exit 0))) (.seq (.block 1 (.seq (.ops 1 [⟨0, (.some 6), .none,
    (.o (.s (.mv (.k .nils))))⟩]) (.seq (.seq (.ops 1 [⟨0, (.some 7), .none, (.o (.s (.mv (.k (.int .i64 (0))))))⟩]) (.block 2 (.loop F17l1))) (.ops 5 [⟨0, (.some 64),
    .none, (.o (.s (.mv (.t 4))))⟩, ⟨1, (.some 65), .none, (.o (.s (.mv (.t 6))))⟩, ⟨2, (.some 66), .none, (.lbsl 3 22 1 1 [.nils] [(0, (.t 65))] .false)⟩, ⟨3, (.some 67),
    .none, (.lapp 1 22 1 24 (.t 64) (.t 66))⟩, ⟨4, (.some 4), .none, (.o (.s (.mv (.t 67))))⟩])))) (.ops 3 [⟨0, (.some 13), .none, (.o (.s (.mv (.t 5))))⟩, ⟨1, (.some 14),
    .none, (.o (.s (.bin .add (.t 13) (.k (.int .i64 (1))))))⟩, ⟨2, (.some 5), .none, (.o (.s (.mv (.t 14))))⟩])))
theorem F17l2w : F17l2.wf = true := by kernel_rfl
def F17s : S2 :=
  (.seq (.ops 1 [⟨0, (.some 2), .none, (.o (.s (.mv (.k .nils))))⟩]) (.seq (.ops 1 [⟨0, (.some 3), .none, (.o (.s (.mv (.k .nils))))⟩]) (.seq (.ops 1 [⟨0, (.some 4), .none,
    (.o (.s (.mv (.k .nils))))⟩]) (.seq (.seq (.ops 1 [⟨0, (.some 5), .none, (.o (.s (.mv (.k (.int .i64 (0))))))⟩]) (.block 0 (.loop F17l2))) (.seq (.ops 2 [⟨0,
    (.some 68), .none, (.o (.s (.mv (.t 4))))⟩, ⟨1, (.some 2), .none, (.o (.s (.mv (.t 68))))⟩]) .ret)))))
noncomputable def F17b : Go.Code := Go.Proofs.Try.f17.body.getD .skip
theorem F17c : comp C [] F17b = some F17s.er := by kernel_rfl
theorem F17w : F17s.wf = true := by kernel_rfl
theorem F17d : Go.Proofs.Try.f17.body = some F17b := by kernel_rfl
@[simp] def F17q : List RV2 := [(.o (.tmp 2))]
theorem F17r : compRVs C Go.Proofs.Try.f17.results.toList = some (F17q.map RV2.er) := by kernel_rfl
theorem F17e : Enters Go.Proofs.Try.prog 17 := enters_of Go.Proofs.Try.func17 (by kernel_rfl) (by kernel_rfl)

/-- scarf/scarflaw16.MyersTurns$1 -- 0: grows t2 t3 t12 t18 t19 -/
def F18l0 : S2 :=
  (.seq (.seq (.ops 2 [⟨0, (.some 8), .none, (.o (.s (.mv (.t 4))))⟩, ⟨1, (.some 9), .none, (.o (.s (.bin .geq (.t 8) (.k (.int .i64 (0))))))⟩]) (.cond (.t 9)
    .skip (.exit 0))) (.seq (.block 1 (.ops 8 [⟨0, (.some 12), .none, (.o (.s (.mv (.t 3))))⟩, ⟨1, (.some 13), .none, (.o (.s (.mv (.t 0))))⟩, ⟨2, (.some 14), .none,
    (.o (.s (.mv (.t 4))))⟩, ⟨3, (.some 15), .none, (.o (.s (.ia 1 (.t 13) (.t 14))))⟩, ⟨4, (.some 16), .none, (.o (.s (.load .none (.t 15))))⟩, ⟨5, (.some 17), .none,
    (.lbsl 1 3 1 1 [(.int .i64 (0))] [(0, (.t 16))] .false)⟩, ⟨6, (.some 18), .none, (.lapp 0 3 1 8 (.t 12) (.t 17))⟩, ⟨7, (.some 3), .none, (.o (.s (.mv (.t 18))))⟩]))
    (.ops 3 [⟨0, (.some 10), .none, (.o (.s (.mv (.t 4))))⟩, ⟨1, (.some 11), .none, (.o (.s (.bin .sub (.t 10) (.k (.int .i64 (1))))))⟩, ⟨2, (.some 4), .none,
    (.o (.s (.mv (.t 11))))⟩])))
theorem F18l0w : F18l0.wf = true := by kernel_rfl
def F18s : S2 :=
  (.seq (.ops 1 [⟨0, (.some 2), .none, (.o (.s (.mv (.k .nils))))⟩]) (.seq (.ops 1 [⟨0, (.some 3), .none, (.o (.s (.mv (.k .nils))))⟩]) (.seq (.seq (.ops 4 [⟨0, (.some 5),
    .none, (.o (.s (.mv (.t 0))))⟩, ⟨1, (.some 6), .none, (.o (.s (.len (.t 5))))⟩, ⟨2, (.some 7), .none, (.o (.s (.bin .sub (.t 6) (.k (.int .i64 (1))))))⟩, ⟨3,
    (.some 4), .none, (.o (.s (.mv (.t 7))))⟩]) (.block 0 (.loop F18l0))) (.seq (.ops 2 [⟨0, (.some 19), .none, (.o (.s (.mv (.t 3))))⟩, ⟨1, (.some 2), .none,
    (.o (.s (.mv (.t 19))))⟩]) .ret))))
noncomputable def F18b : Go.Code := Go.Proofs.Try.f18.body.getD .skip
theorem F18c : comp C [] F18b = some F18s.er := by kernel_rfl
theorem F18w : F18s.wf = true := by kernel_rfl
theorem F18d : Go.Proofs.Try.f18.body = some F18b := by kernel_rfl
@[simp] def F18q : List RV2 := [(.o (.tmp 2))]
theorem F18r : compRVs C Go.Proofs.Try.f18.results.toList = some (F18q.map RV2.er) := by kernel_rfl
theorem F18e : Enters Go.Proofs.Try.prog 18 := enters_of Go.Proofs.Try.func18 (by kernel_rfl) (by kernel_rfl)

/-- (*scarf/myers.row).halves --  -/
def F19l0 : S2 :=
  (.seq (.ops 1 [⟨0, (.some 215), .none, (.o (.s (.bin .lss (.t 214) (.t 213))))⟩]) (.seq (.cond (.t 215) .skip (.exit 7)) (.seq (.block 8 (.seq (.ops 2 [⟨0, (.some 216),
    .none, (.o (.s (.mv (.t 214))))⟩, ⟨1, (.some 21), .none, (.o (.s (.mv (.t 216))))⟩]) (.ops 23 [⟨0, (.some 217), .none, (.o (.s (.mv (.t 0))))⟩, ⟨1, (.some 218), .none,
    (.o (.s (.mv (.t 0))))⟩, ⟨2, (.some 219), .none, (.o (.s (.nilck (.t 218))))⟩, ⟨3, (.some 220), .none, (.o (.s (.fa 0 (.t 219))))⟩, ⟨4, (.some 221), .none,
    (.o (.s (.load .none (.t 220))))⟩, ⟨5, (.some 222), .none, (.o (.s (.mv (.t 3))))⟩, ⟨6, (.some 223), .none, (.o (.s (.mv (.t 11))))⟩, ⟨7, (.some 224), .none,
    (.o (.s (.len (.t 223))))⟩, ⟨8, (.some 225), .none, (.o (.s (.bin .add (.t 222) (.t 224))))⟩, ⟨9, (.some 226), .none, (.o (.s (.mv (.t 21))))⟩, ⟨10, (.some 227),
    .none, (.o (.s (.bin .add (.t 225) (.t 226))))⟩, ⟨11, (.some 228), .none, (.o (.s (.mv (.t 4))))⟩, ⟨12, (.some 229), .none, (.o (.s (.mv (.t 12))))⟩, ⟨13, (.some 230),
    .none, (.o (.s (.len (.t 229))))⟩, ⟨14, (.some 231), .none, (.o (.s (.bin .add (.t 228) (.t 230))))⟩, ⟨15, (.some 232), .none, (.o (.s (.mv (.t 21))))⟩, ⟨16,
    (.some 233), .none, (.o (.s (.bin .add (.t 231) (.t 232))))⟩, ⟨17, (.some 234), .none, (.o (.s (.build [(.int .i64 (0)), (.int .i64 (0))] [(0, (1, (.t 227))), (1, (1,
    (.t 233)))])))⟩, ⟨18, (.some 235), .none, (.lbsl 0 34 2 1 [(.int .i64 (0)), (.int .i64 (0))] [(0, (.t 234))] .false)⟩, ⟨19, (.some 236), .none,
    (.o (.s (.app 34 2 16 (.t 221) (.t 235))))⟩, ⟨20, (.some 237), .none, (.o (.s (.nilck (.t 217))))⟩, ⟨21, (.some 238), .none, (.o (.s (.fa 0 (.t 237))))⟩, ⟨22, .none,
    .none, (.o (.s (.store 1 (.t 238) (.t 236))))⟩]))) (.ops 2 [⟨0, (.some 239), .none, (.o (.s (.bin .add (.t 214) (.k (.int .i64 (1))))))⟩, ⟨1, (.some 214), .none,
    (.o (.s (.mv (.t 239))))⟩]))))
theorem F19l0w : F19l0.wf = true := by kernel_rfl
def F19l1 : S2 :=
  (.seq (.ops 1 [⟨0, (.some 126), .none, (.o (.s (.bin .lss (.t 125) (.t 124))))⟩]) (.seq (.cond (.t 126) .skip (.exit 5)) (.seq (.block 6 (.seq (.ops 2 [⟨0, (.some 127),
    .none, (.o (.s (.mv (.t 125))))⟩, ⟨1, (.some 20), .none, (.o (.s (.mv (.t 127))))⟩]) (.seq (.dops 25 [(⟨0, (.some 128), .none, (.o (.s (.mv (.t 15))))⟩, (.mk 0 [])),
    (⟨1, (.some 129), .none, (.o (.s (.mv (.t 20))))⟩, (.mk 0 [])), (⟨4, (.some 132), .none, (.o (.s (.mv (.t 18))))⟩, (.mk 0 [])), (⟨5, (.some 133), .none,
    (.o (.s (.mv (.t 12))))⟩, (.mk 0 [])), (⟨6, (.some 134), .none, (.o (.s (.len (.t 133))))⟩, (.mk 0 [])), (⟨7, (.some 135), .none, (.o (.s (.mv (.t 20))))⟩,
    (.mk 0 [])), (⟨8, (.some 136), .none, (.o (.s (.bin .sub (.t 134) (.t 135))))⟩, (.mk 0 [])), (⟨12, (.some 140), .none, (.o (.s (.mv (.t 15))))⟩, (.mk 0 [])), (⟨13,
    (.some 141), .none, (.o (.s (.mv (.t 19))))⟩, (.mk 0 [])), (⟨16, (.some 144), .none, (.o (.s (.mv (.t 18))))⟩, (.mk 0 [])), (⟨17, (.some 145), .none,
    (.o (.s (.mv (.t 12))))⟩, (.mk 0 [])), (⟨18, (.some 146), .none, (.o (.s (.len (.t 145))))⟩, (.mk 0 [])), (⟨19, (.some 147), .none, (.o (.s (.mv (.t 19))))⟩,
    (.mk 0 [])), (⟨20, (.some 148), .none, (.o (.s (.bin .sub (.t 146) (.t 147))))⟩, (.mk 0 [])), (⟨2, (.some 130), .none, (.o (.s (.ia 1 (.t 128) (.t 129))))⟩,
    (.mk 1 [])), (⟨3, (.some 131), .none, (.o (.s (.load .none (.t 130))))⟩, (.mk 1 [])), (⟨9, (.some 137), .none, (.o (.s (.ia 1 (.t 132) (.t 136))))⟩, (.mk 1 [])), (⟨10,
    (.some 138), .none, (.o (.s (.load .none (.t 137))))⟩, (.mk 1 [])), (⟨11, (.some 139), .none, (.o (.s (.bin .add (.t 131) (.t 138))))⟩, (.mk 0 [])), (⟨14, (.some 142),
    .none, (.o (.s (.ia 1 (.t 140) (.t 141))))⟩, (.mk 1 [])), (⟨15, (.some 143), .none, (.o (.s (.load .none (.t 142))))⟩, (.mk 1 [])), (⟨21, (.some 149), .none,
    (.o (.s (.ia 1 (.t 144) (.t 148))))⟩, (.mk 1 [])), (⟨22, (.some 150), .none, (.o (.s (.load .none (.t 149))))⟩, (.mk 1 [])), (⟨23, (.some 151), .none,
    (.o (.s (.bin .add (.t 143) (.t 150))))⟩, (.mk 0 [])), (⟨24, (.some 152), .none, (.o (.s (.bin .gtr (.t 139) (.t 151))))⟩, (.mk 0 []))]) (.cond (.t 152) (.ops 2 [⟨0,
    (.some 153), .none, (.o (.s (.mv (.t 20))))⟩, ⟨1, (.some 19), .none, (.o (.s (.mv (.t 153))))⟩]) .skip)))) (.ops 2 [⟨0, (.some 154), .none, (.o (.s (.bin .add (.t 125)
    (.k (.int .i64 (1))))))⟩, ⟨1, (.some 125), .none, (.o (.s (.mv (.t 154))))⟩]))))
theorem F19l1w : F19l1.wf = true := by kernel_rfl
def F19l2 : S2 :=
  (.seq (.seq (.dops 29 [(⟨0, (.some 59), .none, (.o (.s (.mv (.t 10))))⟩, (.mk 0 [])), (⟨1, (.some 60), .none, (.o (.s (.mv (.t 1))))⟩, (.mk 0 [])), (⟨2, (.some 61), .none,
    (.o (.s (.len (.t 60))))⟩, (.mk 0 [])), (⟨3, (.some 62), .none, (.o (.s (.bin .lss (.t 59) (.t 61))))⟩, (.mk 0 [])), (⟨4, (.some 63), .none, (.o (.s (.mv (.t 62))))⟩,
    (.mk 0 [])), (⟨5, (.some 64), (.some (63, .true)), (.o (.s (.mv (.t 10))))⟩, (.mk 0 [])), (⟨6, (.some 65), (.some (63, .true)), (.o (.s (.mv (.t 2))))⟩, (.mk 0 [])),
    (⟨7, (.some 66), (.some (63, .true)), (.o (.s (.len (.t 65))))⟩, (.mk 0 [])), (⟨8, (.some 67), (.some (63, .true)), (.o (.s (.bin .lss (.t 64) (.t 66))))⟩,
    (.mk 0 [])), (⟨9, (.some 68), .none, (.o (.s (.pick (.t 63) (.t 67) (.k (.bool .false)))))⟩, (.mk 0 [])), (⟨10, (.some 69), .none, (.o (.s (.mv (.t 68))))⟩,
    (.mk 0 [])), (⟨11, (.some 70), (.some (69, .true)), (.o (.s (.mv (.t 1))))⟩, (.mk 0 [])), (⟨12, (.some 71), (.some (69, .true)), (.o (.s (.mv (.t 1))))⟩, (.mk 0 [])),
    (⟨13, (.some 72), (.some (69, .true)), (.o (.s (.len (.t 71))))⟩, (.mk 0 [])), (⟨14, (.some 73), (.some (69, .true)), (.o (.s (.bin .sub (.t 72)
    (.k (.int .i64 (1))))))⟩, (.mk 0 [])), (⟨15, (.some 74), (.some (69, .true)), (.o (.s (.mv (.t 10))))⟩, (.mk 0 [])), (⟨16, (.some 75), (.some (69, .true)),
    (.o (.s (.bin .sub (.t 73) (.t 74))))⟩, (.mk 0 [])), (⟨19, (.some 78), (.some (69, .true)), (.o (.s (.mv (.t 2))))⟩, (.mk 0 [])), (⟨20, (.some 79), (.some (69,
    .true)), (.o (.s (.mv (.t 2))))⟩, (.mk 0 [])), (⟨21, (.some 80), (.some (69, .true)), (.o (.s (.len (.t 79))))⟩, (.mk 0 [])), (⟨22, (.some 81), (.some (69, .true)),
    (.o (.s (.bin .sub (.t 80) (.k (.int .i64 (1))))))⟩, (.mk 0 [])), (⟨23, (.some 82), (.some (69, .true)), (.o (.s (.mv (.t 10))))⟩, (.mk 0 [])), (⟨24, (.some 83),
    (.some (69, .true)), (.o (.s (.bin .sub (.t 81) (.t 82))))⟩, (.mk 0 [])), (⟨17, (.some 76), (.some (69, .true)), (.o (.s (.ia 1 (.t 70) (.t 75))))⟩, (.mk 1 [])), (⟨18,
    (.some 77), (.some (69, .true)), (.o (.s (.load .none (.t 76))))⟩, (.mk 1 [])), (⟨25, (.some 84), (.some (69, .true)), (.o (.s (.ia 1 (.t 78) (.t 83))))⟩, (.mk 1 [])),
    (⟨26, (.some 85), (.some (69, .true)), (.o (.s (.load .none (.t 84))))⟩, (.mk 1 [])), (⟨27, (.some 86), (.some (69, .true)), (.o (.s (.bin .eql (.t 77) (.t 85))))⟩,
    (.mk 0 [])), (⟨28, (.some 87), .none, (.o (.s (.pick (.t 69) (.t 86) (.k (.bool .false)))))⟩, (.mk 0 []))]) (.cond (.t 87) .skip (.exit 2))) (.block 3 (.ops 3 [⟨0,
    (.some 88), .none, (.o (.s (.mv (.t 10))))⟩, ⟨1, (.some 89), .none, (.o (.s (.bin .add (.t 88) (.k (.int .i64 (1))))))⟩, ⟨2, (.some 10), .none,
    (.o (.s (.mv (.t 89))))⟩])))
theorem F19l2w : F19l2.wf = true := by kernel_rfl
def F19l3 : S2 :=
  (.seq (.seq (.dops 17 [(⟨0, (.some 22), .none, (.o (.s (.mv (.t 1))))⟩, (.mk 0 [])), (⟨1, (.some 23), .none, (.o (.s (.len (.t 22))))⟩, (.mk 0 [])), (⟨2, (.some 24),
    .none, (.o (.s (.bin .gtr (.t 23) (.k (.int .i64 (0))))))⟩, (.mk 0 [])), (⟨3, (.some 25), .none, (.o (.s (.mv (.t 24))))⟩, (.mk 0 [])), (⟨4, (.some 26), (.some (25,
    .true)), (.o (.s (.mv (.t 2))))⟩, (.mk 0 [])), (⟨5, (.some 27), (.some (25, .true)), (.o (.s (.len (.t 26))))⟩, (.mk 0 [])), (⟨6, (.some 28), (.some (25, .true)),
    (.o (.s (.bin .gtr (.t 27) (.k (.int .i64 (0))))))⟩, (.mk 0 [])), (⟨7, (.some 29), .none, (.o (.s (.pick (.t 25) (.t 28) (.k (.bool .false)))))⟩, (.mk 0 [])), (⟨8,
    (.some 30), .none, (.o (.s (.mv (.t 29))))⟩, (.mk 0 [])), (⟨9, (.some 31), (.some (30, .true)), (.o (.s (.mv (.t 1))))⟩, (.mk 0 [])), (⟨12, (.some 34), (.some (30,
    .true)), (.o (.s (.mv (.t 2))))⟩, (.mk 0 [])), (⟨10, (.some 32), (.some (30, .true)), (.o (.s (.ia 1 (.t 31) (.k (.int .i64 (0))))))⟩, (.mk 1 [])), (⟨11, (.some 33),
    (.some (30, .true)), (.o (.s (.load .none (.t 32))))⟩, (.mk 1 [])), (⟨13, (.some 35), (.some (30, .true)), (.o (.s (.ia 1 (.t 34) (.k (.int .i64 (0))))))⟩,
    (.mk 1 [])), (⟨14, (.some 36), (.some (30, .true)), (.o (.s (.load .none (.t 35))))⟩, (.mk 1 [])), (⟨15, (.some 37), (.some (30, .true)), (.o (.s (.bin .eql (.t 33)
    (.t 36))))⟩, (.mk 0 [])), (⟨16, (.some 38), .none, (.o (.s (.pick (.t 30) (.t 37) (.k (.bool .false)))))⟩, (.mk 0 []))]) (.cond (.t 38) .skip (.exit 0)))
    (.block 1 (.seq (.ops 13 [⟨0, (.some 39), .none, (.o (.s (.mv (.t 0))))⟩, ⟨1, (.some 40), .none, (.o (.s (.mv (.t 0))))⟩, ⟨2, (.some 41), .none,
    (.o (.s (.nilck (.t 40))))⟩, ⟨3, (.some 42), .none, (.o (.s (.fa 0 (.t 41))))⟩, ⟨4, (.some 43), .none, (.o (.s (.load .none (.t 42))))⟩, ⟨5, (.some 44), .none,
    (.o (.s (.mv (.t 3))))⟩, ⟨6, (.some 45), .none, (.o (.s (.mv (.t 4))))⟩, ⟨7, (.some 46), .none, (.o (.s (.build [(.int .i64 (0)), (.int .i64 (0))] [(0, (1, (.t 44))),
    (1, (1, (.t 45)))])))⟩, ⟨8, (.some 47), .none, (.lbsl 0 34 2 1 [(.int .i64 (0)), (.int .i64 (0))] [(0, (.t 46))] .false)⟩, ⟨9, (.some 48), .none,
    (.o (.s (.app 34 2 16 (.t 43) (.t 47))))⟩, ⟨10, (.some 49), .none, (.o (.s (.nilck (.t 39))))⟩, ⟨11, (.some 50), .none, (.o (.s (.fa 0 (.t 49))))⟩, ⟨12, .none, .none,
    (.o (.s (.store 1 (.t 50) (.t 48))))⟩]) (.dops 12 [(⟨0, (.some 51), .none, (.o (.s (.mv (.t 1))))⟩, (.mk 0 [])), (⟨2, (.some 53), .none, (.o (.s (.mv (.t 2))))⟩,
    (.mk 0 [])), (⟨4, (.some 55), .none, (.o (.s (.mv (.t 3))))⟩, (.mk 0 [])), (⟨5, (.some 56), .none, (.o (.s (.bin .add (.t 55) (.k (.int .i64 (1))))))⟩, (.mk 0 [])),
    (⟨6, (.some 57), .none, (.o (.s (.mv (.t 4))))⟩, (.mk 0 [])), (⟨7, (.some 58), .none, (.o (.s (.bin .add (.t 57) (.k (.int .i64 (1))))))⟩, (.mk 0 [])), (⟨1,
    (.some 52), .none, (.o (.s (.sub 1 (.t 51) (.some (.k (.int .i64 (1)))) .none)))⟩, (.mk 1 [])), (⟨8, (.some 1), .none, (.o (.s (.mv (.t 52))))⟩, (.mk 0 [])), (⟨3,
    (.some 54), .none, (.o (.s (.sub 1 (.t 53) (.some (.k (.int .i64 (1)))) .none)))⟩, (.mk 1 [])), (⟨9, (.some 2), .none, (.o (.s (.mv (.t 54))))⟩, (.mk 0 [])), (⟨10,
    (.some 3), .none, (.o (.s (.mv (.t 56))))⟩, (.mk 0 [])), (⟨11, (.some 4), .none, (.o (.s (.mv (.t 58))))⟩, (.mk 0 []))]))))
theorem F19l3w : F19l3.wf = true := by kernel_rfl
def F19s : S2 :=
  (.seq (.block 0 (.loop F19l3)) (.seq (.ops 1 [⟨0, (.some 10), .none, (.o (.s (.mv (.k (.int .i64 (0))))))⟩]) (.seq (.block 2 (.loop F19l2)) (.seq (.dops 14 [(⟨0,
    (.some 90), .none, (.o (.s (.mv (.t 1))))⟩, (.mk 0 [])), (⟨1, (.some 91), .none, (.o (.s (.mv (.t 1))))⟩, (.mk 0 [])), (⟨2, (.some 92), .none,
    (.o (.s (.len (.t 91))))⟩, (.mk 0 [])), (⟨3, (.some 93), .none, (.o (.s (.mv (.t 10))))⟩, (.mk 0 [])), (⟨4, (.some 94), .none, (.o (.s (.bin .sub (.t 92) (.t 93))))⟩,
    (.mk 0 [])), (⟨6, (.some 96), .none, (.o (.s (.mv (.t 2))))⟩, (.mk 0 [])), (⟨7, (.some 97), .none, (.o (.s (.mv (.t 2))))⟩, (.mk 0 [])), (⟨8, (.some 98), .none,
    (.o (.s (.len (.t 97))))⟩, (.mk 0 [])), (⟨9, (.some 99), .none, (.o (.s (.mv (.t 10))))⟩, (.mk 0 [])), (⟨10, (.some 100), .none, (.o (.s (.bin .sub (.t 98)
    (.t 99))))⟩, (.mk 0 [])), (⟨5, (.some 95), .none, (.o (.s (.sub 1 (.t 90) .none (.some (.t 94)))))⟩, (.mk 1 [])), (⟨12, (.some 11), .none, (.o (.s (.mv (.t 95))))⟩,
    (.mk 0 [])), (⟨11, (.some 101), .none, (.o (.s (.sub 1 (.t 96) .none (.some (.t 100)))))⟩, (.mk 1 [])), (⟨13, (.some 12), .none, (.o (.s (.mv (.t 101))))⟩,
    (.mk 0 []))]) (.seq (.block 4 (.seq (.ops 9 [⟨0, (.some 180), .none, (.o (.s (.mv (.t 11))))⟩, ⟨1, (.some 181), .none, (.o (.s (.len (.t 180))))⟩, ⟨2, (.some 182),
    .none, (.o (.s (.bin .eql (.t 181) (.k (.int .i64 (0))))))⟩, ⟨3, (.some 183), .none, (.o (.s (.mv (.t 182))))⟩, ⟨4, (.some 184), (.some (183, .false)),
    (.o (.s (.mv (.t 12))))⟩, ⟨5, (.some 185), (.some (183, .false)), (.o (.s (.len (.t 184))))⟩, ⟨6, (.some 186), (.some (183, .false)), (.o (.s (.bin .eql (.t 185)
    (.k (.int .i64 (0))))))⟩, ⟨7, (.some 187), .none, (.o (.s (.pick (.t 183) (.k (.bool .true)) (.t 186))))⟩, ⟨8, (.some 179), .none, (.o (.s (.mv (.t 187))))⟩])
    (.cond (.t 179) .skip (.seq (.ops 4 [⟨0, (.some 189), .none, (.o (.s (.mv (.t 11))))⟩, ⟨1, (.some 190), .none, (.o (.s (.len (.t 189))))⟩, ⟨2, (.some 191), .none,
    (.o (.s (.bin .eql (.t 190) (.k (.int .i64 (1))))))⟩, ⟨3, (.some 188), .none, (.o (.s (.mv (.t 191))))⟩]) (.cond (.t 188) (.seq (.ops 6 [⟨0, (.some 192), .none,
    (.o (.s (.mv (.t 12))))⟩, ⟨1, (.some 193), .none, (.o (.s (.mv (.t 11))))⟩, ⟨2, (.some 194), .none, (.o (.s (.ia 1 (.t 193) (.k (.int .i64 (0))))))⟩, ⟨3, (.some 195),
    .none, (.o (.s (.load .none (.t 194))))⟩, ⟨4, (.some 196), .none, (.o (.call 20 [(.t 192), (.t 195)]))⟩, ⟨5, (.some 13), .none, (.o (.s (.mv (.t 196))))⟩])
    (.seq (.ops 2 [⟨0, (.some 197), .none, (.o (.s (.mv (.t 13))))⟩, ⟨1, (.some 198), .none, (.o (.s (.bin .geq (.t 197) (.k (.int .i64 (0))))))⟩]) (.cond (.t 198)
    (.ops 15 [⟨0, (.some 199), .none, (.o (.s (.mv (.t 0))))⟩, ⟨1, (.some 200), .none, (.o (.s (.mv (.t 0))))⟩, ⟨2, (.some 201), .none, (.o (.s (.nilck (.t 200))))⟩, ⟨3,
    (.some 202), .none, (.o (.s (.fa 0 (.t 201))))⟩, ⟨4, (.some 203), .none, (.o (.s (.load .none (.t 202))))⟩, ⟨5, (.some 204), .none, (.o (.s (.mv (.t 3))))⟩, ⟨6,
    (.some 205), .none, (.o (.s (.mv (.t 4))))⟩, ⟨7, (.some 206), .none, (.o (.s (.mv (.t 13))))⟩, ⟨8, (.some 207), .none, (.o (.s (.bin .add (.t 205) (.t 206))))⟩, ⟨9,
    (.some 208), .none, (.o (.s (.build [(.int .i64 (0)), (.int .i64 (0))] [(0, (1, (.t 204))), (1, (1, (.t 207)))])))⟩, ⟨10, (.some 209), .none,
    (.lbsl 0 34 2 1 [(.int .i64 (0)), (.int .i64 (0))] [(0, (.t 208))] .false)⟩, ⟨11, (.some 210), .none, (.o (.s (.app 34 2 16 (.t 203) (.t 209))))⟩, ⟨12, (.some 211),
    .none, (.o (.s (.nilck (.t 199))))⟩, ⟨13, (.some 212), .none, (.o (.s (.fa 0 (.t 211))))⟩, ⟨14, .none, .none, (.o (.s (.store 1 (.t 212) (.t 210))))⟩]) .skip)))
    (.seq (.ops 4 [⟨0, (.some 102), .none, (.o (.s (.mv (.t 11))))⟩, ⟨1, (.some 103), .none, (.o (.s (.len (.t 102))))⟩, ⟨2, (.some 104), .none,
    (.o (.s (.bin .quo (.t 103) (.k (.int .i64 (2))))))⟩, ⟨3, (.some 14), .none, (.o (.s (.mv (.t 104))))⟩]) (.seq (.ops 6 [⟨0, (.some 105), .none,
    (.o (.s (.mv (.t 11))))⟩, ⟨1, (.some 106), .none, (.o (.s (.mv (.t 14))))⟩, ⟨2, (.some 107), .none, (.o (.s (.sub 1 (.t 105) .none (.some (.t 106)))))⟩, ⟨3,
    (.some 108), .none, (.o (.s (.mv (.t 12))))⟩, ⟨4, (.some 109), .none, (.o (.call 21 [(.t 107), (.t 108)]))⟩, ⟨5, (.some 15), .none, (.o (.s (.mv (.t 109))))⟩])
    (.seq (.ops 8 [⟨0, (.some 110), .none, (.o (.s (.mv (.t 11))))⟩, ⟨1, (.some 111), .none, (.o (.s (.mv (.t 14))))⟩, ⟨2, (.some 112), .none, (.o (.s (.sub 1 (.t 110)
    (.some (.t 111)) .none)))⟩, ⟨3, (.some 113), .none, (.o (.call 22 [(.t 112)]))⟩, ⟨4, (.some 114), .none, (.o (.s (.mv (.t 12))))⟩, ⟨5, (.some 115), .none,
    (.o (.call 22 [(.t 114)]))⟩, ⟨6, (.some 16), .none, (.o (.s (.mv (.t 113))))⟩, ⟨7, (.some 17), .none, (.o (.s (.mv (.t 115))))⟩]) (.seq (.ops 2 [⟨0, (.some 116),
    .none, (.o (.s (.mv (.t 16))))⟩, ⟨1, (.some 117), .none, (.o (.call 23 [(.t 116)]))⟩]) (.seq (.ops 2 [⟨0, (.some 118), .none, (.o (.s (.mv (.t 17))))⟩, ⟨1,
    (.some 119), .none, (.o (.call 23 [(.t 118)]))⟩]) (.seq (.ops 4 [⟨0, (.some 120), .none, (.o (.s (.mv (.t 16))))⟩, ⟨1, (.some 121), .none, (.o (.s (.mv (.t 17))))⟩,
    ⟨2, (.some 122), .none, (.o (.call 21 [(.t 120), (.t 121)]))⟩, ⟨3, (.some 18), .none, (.o (.s (.mv (.t 122))))⟩]) (.seq (.ops 1 [⟨0, (.some 19), .none,
    (.o (.s (.mv (.k (.int .i64 (0))))))⟩]) (.seq (.seq (.ops 3 [⟨0, (.some 123), .none, (.o (.s (.mv (.t 15))))⟩, ⟨1, (.some 124), .none, (.o (.s (.len (.t 123))))⟩, ⟨2,
    (.some 125), .none, (.o (.s (.mv (.k (.int .i64 (0))))))⟩]) (.block 5 (.loop F19l1))) (.seq (.dopc 10 [(⟨0, (.some 155), .none, (.o (.s (.mv (.t 0))))⟩, (.mk 0 [])),
    (⟨1, (.some 156), .none, (.o (.s (.mv (.t 11))))⟩, (.mk 0 [])), (⟨2, (.some 157), .none, (.o (.s (.mv (.t 14))))⟩, (.mk 0 [])), (⟨4, (.some 159), .none,
    (.o (.s (.mv (.t 12))))⟩, (.mk 0 [])), (⟨5, (.some 160), .none, (.o (.s (.mv (.t 19))))⟩, (.mk 0 [])), (⟨7, (.some 162), .none, (.o (.s (.mv (.t 3))))⟩, (.mk 0 [])),
    (⟨8, (.some 163), .none, (.o (.s (.mv (.t 4))))⟩, (.mk 0 [])), (⟨3, (.some 158), .none, (.o (.s (.sub 1 (.t 156) .none (.some (.t 157)))))⟩, (.mk 1 [])), (⟨6,
    (.some 161), .none, (.o (.s (.sub 1 (.t 159) .none (.some (.t 160)))))⟩, (.mk 1 [])), (⟨9, (.some 164), .none, (.o (.icall 19 [(.t 155), (.t 158), (.t 161), (.t 162),
    (.t 163)]))⟩, (.mk 0 []))]) (.dopc 14 [(⟨0, (.some 165), .none, (.o (.s (.mv (.t 0))))⟩, (.mk 0 [])), (⟨1, (.some 166), .none, (.o (.s (.mv (.t 11))))⟩, (.mk 0 [])),
    (⟨2, (.some 167), .none, (.o (.s (.mv (.t 14))))⟩, (.mk 0 [])), (⟨4, (.some 169), .none, (.o (.s (.mv (.t 12))))⟩, (.mk 0 [])), (⟨5, (.some 170), .none,
    (.o (.s (.mv (.t 19))))⟩, (.mk 0 [])), (⟨7, (.some 172), .none, (.o (.s (.mv (.t 3))))⟩, (.mk 0 [])), (⟨8, (.some 173), .none, (.o (.s (.mv (.t 14))))⟩, (.mk 0 [])),
    (⟨9, (.some 174), .none, (.o (.s (.bin .add (.t 172) (.t 173))))⟩, (.mk 0 [])), (⟨10, (.some 175), .none, (.o (.s (.mv (.t 4))))⟩, (.mk 0 [])), (⟨11, (.some 176),
    .none, (.o (.s (.mv (.t 19))))⟩, (.mk 0 [])), (⟨12, (.some 177), .none, (.o (.s (.bin .add (.t 175) (.t 176))))⟩, (.mk 0 [])), (⟨3, (.some 168), .none,
    (.o (.s (.sub 1 (.t 166) (.some (.t 167)) .none)))⟩, (.mk 1 [])), (⟨6, (.some 171), .none, (.o (.s (.sub 1 (.t 169) (.some (.t 170)) .none)))⟩, (.mk 1 [])), (⟨13,
    (.some 178), .none, (.o (.icall 19 [(.t 165), (.t 168), (.t 171), (.t 174), (.t 177)]))⟩, (.mk 0 []))]))))))))))))))) (.seq (.ops 2 [⟨0, (.some 213), .none,
    (.o (.s (.mv (.t 10))))⟩, ⟨1, (.some 214), .none, (.o (.s (.mv (.k (.int .i64 (0))))))⟩]) (.block 7 (.loop F19l0))))))))
noncomputable def F19b : Go.Code := Go.Proofs.Try.f19.body.getD .skip
theorem F19c : comp C [(20, 9), (21, 13)] F19b = some F19s.er := by kernel_rfl
theorem F19w : F19s.wf = true := by kernel_rfl
theorem F19d : Go.Proofs.Try.f19.body = some F19b := by kernel_rfl
@[simp] def F19q : List RV2 := []
theorem F19r : compRVs C Go.Proofs.Try.f19.results.toList = some (F19q.map RV2.er) := by kernel_rfl
theorem F19e : Enters Go.Proofs.Try.prog 19 := enters_of Go.Proofs.Try.func19 (by kernel_rfl) (by kernel_rfl)

/-- slices.Index[[]int,int] --  -/
def F20l0 : S2 :=
  (.seq (.ops 1 [⟨0, (.some 9), .none, (.o (.s (.bin .lss (.t 8) (.t 7))))⟩]) (.seq (.cond (.t 9) .skip (.exit 0)) (.seq (.block 1 (.seq (.ops 2 [⟨0, (.some 10), .none,
    (.o (.s (.mv (.t 8))))⟩, ⟨1, (.some 5), .none, (.o (.s (.mv (.t 10))))⟩]) (.seq (.ops 6 [⟨0, (.some 11), .none, (.o (.s (.mv (.t 1))))⟩, ⟨1, (.some 12), .none,
    (.o (.s (.mv (.t 0))))⟩, ⟨2, (.some 13), .none, (.o (.s (.mv (.t 5))))⟩, ⟨3, (.some 14), .none, (.o (.s (.ia 1 (.t 12) (.t 13))))⟩, ⟨4, (.some 15), .none,
    (.o (.s (.load .none (.t 14))))⟩, ⟨5, (.some 16), .none, (.o (.s (.bin .eql (.t 11) (.t 15))))⟩]) (.cond (.t 16) (.seq (.ops 2 [⟨0, (.some 17), .none,
    (.o (.s (.mv (.t 5))))⟩, ⟨1, (.some 4), .none, (.o (.s (.mv (.t 17))))⟩]) .ret) .skip)))) (.ops 2 [⟨0, (.some 18), .none, (.o (.s (.bin .add (.t 8)
    (.k (.int .i64 (1))))))⟩, ⟨1, (.some 8), .none, (.o (.s (.mv (.t 18))))⟩]))))
theorem F20l0w : F20l0.wf = true := by kernel_rfl
def F20s : S2 :=
  (.seq (.ops 1 [⟨0, (.some 4), .none, (.o (.s (.mv (.k (.int .i64 (0))))))⟩]) (.seq (.seq (.ops 3 [⟨0, (.some 6), .none, (.o (.s (.mv (.t 0))))⟩, ⟨1, (.some 7), .none,
    (.o (.s (.len (.t 6))))⟩, ⟨2, (.some 8), .none, (.o (.s (.mv (.k (.int .i64 (0))))))⟩]) (.block 0 (.loop F20l0))) (.seq (.ops 1 [⟨0, (.some 4), .none,
    (.o (.s (.mv (.k (.int .i64 (-1))))))⟩]) .ret)))
noncomputable def F20b : Go.Code := Go.Proofs.Try.f20.body.getD .skip
theorem F20c : comp C [] F20b = some F20s.er := by kernel_rfl
theorem F20w : F20s.wf = true := by kernel_rfl
theorem F20d : Go.Proofs.Try.f20.body = some F20b := by kernel_rfl
@[simp] def F20q : List RV2 := [(.o (.tmp 4))]
theorem F20r : compRVs C Go.Proofs.Try.f20.results.toList = some (F20q.map RV2.er) := by kernel_rfl
theorem F20e : Enters Go.Proofs.Try.prog 20 := enters_of Go.Proofs.Try.func20 (by kernel_rfl) (by kernel_rfl)

/-- scarf/myers.table --  -/
def F21l0 : S2 :=
  (.seq (.ops 1 [⟨0, (.some 28), .none, (.o (.s (.bin .lss (.t 27) (.t 26))))⟩]) (.seq (.cond (.t 28) .skip (.exit 2)) (.seq (.block 3 (.seq (.ops 5 [⟨0, (.some 29), .none,
    (.o (.s (.mv (.t 27))))⟩, ⟨1, (.some 30), .none, (.o (.s (.ia 1 (.t 25) (.t 27))))⟩, ⟨2, (.some 31), .none, (.o (.s (.load .none (.t 30))))⟩, ⟨3, (.some 9), .none,
    (.o (.s (.mv (.t 29))))⟩, ⟨4, (.some 10), .none, (.o (.s (.mv (.t 31))))⟩]) (.seq (.ops 3 [⟨0, (.some 32), .none, (.o (.s (.mv (.t 8))))⟩, ⟨1, (.some 33), .none,
    (.o (.s (.mv (.t 10))))⟩, ⟨2, (.some 34), .none, (.o (.s (.bin .eql (.t 32) (.t 33))))⟩]) (.cond (.t 34) (.ops 10 [⟨0, (.some 35), .none, (.o (.s (.mv (.t 6))))⟩, ⟨1,
    (.some 36), .none, (.o (.s (.mv (.t 9))))⟩, ⟨2, (.some 37), .none, (.o (.s (.bin .add (.t 36) (.k (.int .i64 (1))))))⟩, ⟨3, (.some 38), .none, (.o (.s (.mv (.t 5))))⟩,
    ⟨4, (.some 39), .none, (.o (.s (.mv (.t 9))))⟩, ⟨5, (.some 40), .none, (.o (.s (.ia 1 (.t 38) (.t 39))))⟩, ⟨6, (.some 41), .none, (.o (.s (.load .none (.t 40))))⟩, ⟨7,
    (.some 42), .none, (.o (.s (.bin .add (.t 41) (.k (.int .i64 (1))))))⟩, ⟨8, (.some 43), .none, (.o (.s (.ia 1 (.t 35) (.t 37))))⟩, ⟨9, .none, .none,
    (.o (.s (.store 1 (.t 43) (.t 42))))⟩]) (.dops 15 [(⟨0, (.some 44), .none, (.o (.s (.mv (.t 6))))⟩, (.mk 0 [])), (⟨1, (.some 45), .none, (.o (.s (.mv (.t 9))))⟩,
    (.mk 0 [])), (⟨2, (.some 46), .none, (.o (.s (.bin .add (.t 45) (.k (.int .i64 (1))))))⟩, (.mk 0 [])), (⟨3, (.some 47), .none, (.o (.s (.mv (.t 6))))⟩, (.mk 0 [])),
    (⟨4, (.some 48), .none, (.o (.s (.mv (.t 9))))⟩, (.mk 0 [])), (⟨7, (.some 51), .none, (.o (.s (.mv (.t 5))))⟩, (.mk 0 [])), (⟨8, (.some 52), .none,
    (.o (.s (.mv (.t 9))))⟩, (.mk 0 [])), (⟨9, (.some 53), .none, (.o (.s (.bin .add (.t 52) (.k (.int .i64 (1))))))⟩, (.mk 0 [])), (⟨5, (.some 49), .none,
    (.o (.s (.ia 1 (.t 47) (.t 48))))⟩, (.mk 1 [])), (⟨6, (.some 50), .none, (.o (.s (.load .none (.t 49))))⟩, (.mk 1 [])), (⟨10, (.some 54), .none, (.o (.s (.ia 1 (.t 51)
    (.t 53))))⟩, (.mk 1 [])), (⟨11, (.some 55), .none, (.o (.s (.load .none (.t 54))))⟩, (.mk 1 [])), (⟨12, (.some 56), .none, (.o (.s (.mx (.t 50) (.t 55))))⟩,
    (.mk 0 [])), (⟨13, (.some 57), .none, (.o (.s (.ia 1 (.t 44) (.t 46))))⟩, (.mk 1 [])), (⟨14, .none, .none, (.o (.s (.store 1 (.t 57) (.t 56))))⟩, (.mk 2 []))])))))
    (.ops 2 [⟨0, (.some 58), .none, (.o (.s (.bin .add (.t 27) (.k (.int .i64 (1))))))⟩, ⟨1, (.some 27), .none, (.o (.s (.mv (.t 58))))⟩]))))
theorem F21l0w : F21l0.wf = true := by kernel_rfl
def F21l1 : S2 :=
  (.seq (.ops 1 [⟨0, (.some 22), .none, (.o (.s (.bin .lss (.t 21) (.t 20))))⟩]) (.seq (.cond (.t 22) .skip (.exit 0)) (.seq (.block 1 (.seq (.ops 3 [⟨0, (.some 23), .none,
    (.o (.s (.ia 1 (.t 19) (.t 21))))⟩, ⟨1, (.some 24), .none, (.o (.s (.load .none (.t 23))))⟩, ⟨2, (.some 8), .none, (.o (.s (.mv (.t 24))))⟩]) (.seq (.seq (.ops 3 [⟨0,
    (.some 25), .none, (.o (.s (.mv (.t 1))))⟩, ⟨1, (.some 26), .none, (.o (.s (.len (.t 25))))⟩, ⟨2, (.some 27), .none, (.o (.s (.mv (.k (.int .i64 (0))))))⟩])
    (.block 2 (.loop F21l0))) (.ops 4 [⟨0, (.some 59), .none, (.o (.s (.mv (.t 6))))⟩, ⟨1, (.some 60), .none, (.o (.s (.mv (.t 5))))⟩, ⟨2, (.some 5), .none,
    (.o (.s (.mv (.t 59))))⟩, ⟨3, (.some 6), .none, (.o (.s (.mv (.t 60))))⟩])))) (.ops 2 [⟨0, (.some 61), .none, (.o (.s (.bin .add (.t 21) (.k (.int .i64 (1))))))⟩, ⟨1,
    (.some 21), .none, (.o (.s (.mv (.t 61))))⟩]))))
theorem F21l1w : F21l1.wf = true := by kernel_rfl
def F21s : S2 :=
  (.seq (.ops 1 [⟨0, (.some 4), .none, (.o (.s (.mv (.k .nils))))⟩]) (.seq (.dops 10 [(⟨0, (.some 11), .none, (.o (.s (.mv (.t 1))))⟩, (.mk 0 [])), (⟨1, (.some 12), .none,
    (.o (.s (.len (.t 11))))⟩, (.mk 0 [])), (⟨2, (.some 13), .none, (.o (.s (.bin .add (.t 12) (.k (.int .i64 (1))))))⟩, (.mk 0 [])), (⟨4, (.some 15), .none,
    (.o (.s (.mv (.t 1))))⟩, (.mk 0 [])), (⟨5, (.some 16), .none, (.o (.s (.len (.t 15))))⟩, (.mk 0 [])), (⟨6, (.some 17), .none, (.o (.s (.bin .add (.t 16)
    (.k (.int .i64 (1))))))⟩, (.mk 0 [])), (⟨3, (.some 14), .none, (.o (.s (.mks 3 1 8 [(.int .i64 (0))] (.t 13) (.t 13) .true)))⟩, (.mk 0 [3])), (⟨8, (.some 5), .none,
    (.o (.s (.mv (.t 14))))⟩, (.mk 0 [])), (⟨7, (.some 18), .none, (.o (.s (.mks 3 1 8 [(.int .i64 (0))] (.t 17) (.t 17) .true)))⟩, (.mk 0 [7])), (⟨9, (.some 6), .none,
    (.o (.s (.mv (.t 18))))⟩, (.mk 0 []))]) (.seq (.seq (.ops 3 [⟨0, (.some 19), .none, (.o (.s (.mv (.t 0))))⟩, ⟨1, (.some 20), .none, (.o (.s (.len (.t 19))))⟩, ⟨2,
    (.some 21), .none, (.o (.s (.mv (.k (.int .i64 (0))))))⟩]) (.block 0 (.loop F21l1))) (.seq (.ops 2 [⟨0, (.some 62), .none, (.o (.s (.mv (.t 5))))⟩, ⟨1, (.some 4),
    .none, (.o (.s (.mv (.t 62))))⟩]) .ret))))
noncomputable def F21b : Go.Code := Go.Proofs.Try.f21.body.getD .skip
theorem F21c : comp C [(1, 3), (1, 7)] F21b = some F21s.er := by kernel_rfl
theorem F21w : F21s.wf = true := by kernel_rfl
theorem F21d : Go.Proofs.Try.f21.body = some F21b := by kernel_rfl
@[simp] def F21q : List RV2 := [(.o (.tmp 4))]
theorem F21r : compRVs C Go.Proofs.Try.f21.results.toList = some (F21q.map RV2.er) := by kernel_rfl
theorem F21e : Enters Go.Proofs.Try.prog 21 := enters_of Go.Proofs.Try.func21 (by kernel_rfl) (by kernel_rfl)

/-- slices.Clone[[]int,int] --  -/
def F22s : S2 :=
  (.seq (.ops 1 [⟨0, (.some 2), .none, (.o (.s (.mv (.k .nils))))⟩]) (.seq (.seq (.ops 2 [⟨0, (.some 3), .none, (.o (.s (.mv (.t 0))))⟩, ⟨1, (.some 4), .none,
    (.o (.s (.eqs .slice .false (.t 3) (.k .nils))))⟩]) (.cond (.t 4) (.seq (.ops 1 [⟨0, (.some 2), .none, (.o (.s (.mv (.k .nils))))⟩]) .ret) .skip)) (.seq (.ops 4 [⟨0,
    (.some 5), .none, (.o (.s .empt))⟩, ⟨1, (.some 6), .none, (.o (.s (.mv (.t 0))))⟩, ⟨2, (.some 7), .none, (.o (.s (.grow 3 1 8 (.t 5) (.t 6))))⟩, ⟨3, (.some 2), .none,
    (.o (.s (.mv (.t 7))))⟩]) .ret)))
noncomputable def F22b : Go.Code := Go.Proofs.Try.f22.body.getD .skip
theorem F22c : comp C [(3, 0), (3, 2)] F22b = some F22s.er := by kernel_rfl
theorem F22w : F22s.wf = true := by kernel_rfl
theorem F22d : Go.Proofs.Try.f22.body = some F22b := by kernel_rfl
@[simp] def F22q : List RV2 := [(.o (.tmp 2))]
theorem F22r : compRVs C Go.Proofs.Try.f22.results.toList = some (F22q.map RV2.er) := by kernel_rfl
theorem F22e : Enters Go.Proofs.Try.prog 22 := enters_of Go.Proofs.Try.func22 (by kernel_rfl) (by kernel_rfl)

/-- slices.Reverse[[]int,int] --  -/
def F23l0 : S2 :=
  (.seq (.seq (.ops 3 [⟨0, (.some 7), .none, (.o (.s (.mv (.t 2))))⟩, ⟨1, (.some 8), .none, (.o (.s (.mv (.t 3))))⟩, ⟨2, (.some 9), .none, (.o (.s (.bin .lss (.t 7)
    (.t 8))))⟩]) (.cond (.t 9) .skip (.exit 0))) (.seq (.block 1 (.dops 16 [(⟨0, (.some 14), .none, (.o (.s (.mv (.t 0))))⟩, (.mk 0 [])), (⟨1, (.some 15), .none,
    (.o (.s (.mv (.t 2))))⟩, (.mk 0 [])), (⟨2, (.some 16), .none, (.o (.s (.mv (.t 0))))⟩, (.mk 0 [])), (⟨3, (.some 17), .none, (.o (.s (.mv (.t 3))))⟩, (.mk 0 [])), (⟨4,
    (.some 18), .none, (.o (.s (.mv (.t 0))))⟩, (.mk 0 [])), (⟨5, (.some 19), .none, (.o (.s (.mv (.t 3))))⟩, (.mk 0 [])), (⟨8, (.some 22), .none, (.o (.s (.mv (.t 0))))⟩,
    (.mk 0 [])), (⟨9, (.some 23), .none, (.o (.s (.mv (.t 2))))⟩, (.mk 0 [])), (⟨6, (.some 20), .none, (.o (.s (.ia 1 (.t 18) (.t 19))))⟩, (.mk 1 [])), (⟨7, (.some 21),
    .none, (.o (.s (.load .none (.t 20))))⟩, (.mk 1 [])), (⟨10, (.some 24), .none, (.o (.s (.ia 1 (.t 22) (.t 23))))⟩, (.mk 1 [])), (⟨11, (.some 25), .none,
    (.o (.s (.load .none (.t 24))))⟩, (.mk 1 [])), (⟨12, (.some 26), .none, (.o (.s (.ia 1 (.t 14) (.t 15))))⟩, (.mk 1 [])), (⟨13, .none, .none, (.o (.s (.store 1 (.t 26)
    (.t 21))))⟩, (.mk 2 [])), (⟨14, (.some 27), .none, (.o (.s (.ia 1 (.t 16) (.t 17))))⟩, (.mk 1 [])), (⟨15, .none, .none, (.o (.s (.store 1 (.t 27) (.t 25))))⟩,
    (.mk 2 []))])) (.ops 6 [⟨0, (.some 10), .none, (.o (.s (.mv (.t 2))))⟩, ⟨1, (.some 11), .none, (.o (.s (.bin .add (.t 10) (.k (.int .i64 (1))))))⟩, ⟨2, (.some 12),
    .none, (.o (.s (.mv (.t 3))))⟩, ⟨3, (.some 13), .none, (.o (.s (.bin .sub (.t 12) (.k (.int .i64 (1))))))⟩, ⟨4, (.some 2), .none, (.o (.s (.mv (.t 11))))⟩, ⟨5,
    (.some 3), .none, (.o (.s (.mv (.t 13))))⟩])))
theorem F23l0w : F23l0.wf = true := by kernel_rfl
def F23s : S2 :=
  (.seq (.ops 5 [⟨0, (.some 4), .none, (.o (.s (.mv (.t 0))))⟩, ⟨1, (.some 5), .none, (.o (.s (.len (.t 4))))⟩, ⟨2, (.some 6), .none, (.o (.s (.bin .sub (.t 5)
    (.k (.int .i64 (1))))))⟩, ⟨3, (.some 2), .none, (.o (.s (.mv (.k (.int .i64 (0))))))⟩, ⟨4, (.some 3), .none, (.o (.s (.mv (.t 6))))⟩]) (.block 0 (.loop F23l0)))
noncomputable def F23b : Go.Code := Go.Proofs.Try.f23.body.getD .skip
theorem F23c : comp C [] F23b = some F23s.er := by kernel_rfl
theorem F23w : F23s.wf = true := by kernel_rfl
theorem F23d : Go.Proofs.Try.f23.body = some F23b := by kernel_rfl
@[simp] def F23q : List RV2 := []
theorem F23r : compRVs C Go.Proofs.Try.f23.results.toList = some (F23q.map RV2.er) := by kernel_rfl
theorem F23e : Enters Go.Proofs.Try.prog 23 := enters_of Go.Proofs.Try.func23 (by kernel_rfl) (by kernel_rfl)

end Go.Proofs.Ytinfmkmebemhcaa.Lt
