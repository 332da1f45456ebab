/- The light code of this seat's functions, locals by name (written by light2.py of the prover's own tools). -/
import Derived.Test.YtoeonamjbohokaaChecked
import Derived.Test.YtoeonamjbohokaaB3
import Derived.KernelRfl
namespace Go.Proofs.Ytoeonamjbohokaa.Lt
open Go.Proofs.YtoeonamjbohokaaW.Abs
set_option linter.unusedVariables false
set_option maxRecDepth 100000

noncomputable abbrev C : Ctx := ctxOf Go.Proofs.Try.prog [45]
theorem cok : C.Ok Go.Proofs.Try.prog := ctxOf_ok (by kernel_rfl) (fun f hf v w => by simp at hf; subst hf; exact same_of Go.Proofs.Try.func45 (by kernel_rfl) (by kernel_rfl) (by kernel_rfl) (by kernel_rfl) v w)

/-- scarf/scarflaw08.LayoutWidths --  -/
def F3s : S2 :=
  (.seq (.ops 1 [⟨0, (.some 4), .none, (.o (.s (.mv (.k (.bool .false)))))⟩]) (.seq (.dops 12 [(⟨0, (.some 5), .none, (.o (.s (.mv (.t 0))))⟩, (.mk 0 [])), (⟨1, (.some 6),
    .none, (.o (.s (.mv (.t 0))))⟩, (.mk 0 [])), (⟨2, (.some 7), .none, (.o (.s (.lens (.t 6))))⟩, (.mk 0 [])), (⟨3, (.some 8), .none, (.o (.s (.mn (.t 7)
    (.k (.int .i64 (20000))))))⟩, (.mk 0 [])), (⟨4, (.some 9), .none, (.o (.s (.subs (.t 5) .none (.some (.t 8)))))⟩, (.mk 0 [])), (⟨5, (.some 10), .none,
    (.o (.s (.mv (.t 1))))⟩, (.mk 0 [])), (⟨6, (.some 11), .none, (.o (.s (.mv (.t 1))))⟩, (.mk 0 [])), (⟨7, (.some 12), .none, (.o (.s (.lens (.t 11))))⟩, (.mk 0 [])),
    (⟨8, (.some 13), .none, (.o (.s (.mn (.t 12) (.k (.int .i64 (20000))))))⟩, (.mk 0 [])), (⟨9, (.some 14), .none, (.o (.s (.subs (.t 10) .none (.some (.t 13)))))⟩,
    (.mk 0 [])), (⟨10, (.some 0), .none, (.o (.s (.mv (.t 9))))⟩, (.mk 0 [])), (⟨11, (.some 1), .none, (.o (.s (.mv (.t 14))))⟩, (.mk 0 []))]) (.seq (.ops 21 [⟨0,
    (.some 15), .none, (.o (.call 9 []))⟩, ⟨1, (.some 16), .none, (.o (.s (.mv (.t 15))))⟩, ⟨2, (.some 17), (.some (16, .true)), (.o (.s (.mv (.t 0))))⟩, ⟨3, (.some 18),
    (.some (16, .true)), (.o (.call 10 [(.t 17)]))⟩, ⟨4, (.some 19), (.some (16, .true)), (.o (.s (.mv (.t 0))))⟩, ⟨5, (.some 20), (.some (16, .true)),
    (.o (.call 11 [(.t 19)]))⟩, ⟨6, (.some 21), (.some (16, .true)), (.o (.s (.bin .eql (.t 18) (.t 20))))⟩, ⟨7, (.some 22), .none, (.o (.s (.pick (.t 16) (.t 21)
    (.k (.bool .false)))))⟩, ⟨8, (.some 23), .none, (.o (.s (.mv (.t 22))))⟩, ⟨9, (.some 24), (.some (23, .true)), (.o (.s (.mv (.t 0))))⟩, ⟨10, (.some 25), (.some (23,
    .true)), (.o (.s (.mv (.t 1))))⟩, ⟨11, (.some 26), (.some (23, .true)), (.o (.s (.bin .add (.t 24) (.t 25))))⟩, ⟨12, (.some 27), (.some (23, .true)),
    (.o (.call 10 [(.t 26)]))⟩, ⟨13, (.some 28), (.some (23, .true)), (.o (.s (.mv (.t 0))))⟩, ⟨14, (.some 29), (.some (23, .true)), (.o (.call 10 [(.t 28)]))⟩, ⟨15,
    (.some 30), (.some (23, .true)), (.o (.s (.mv (.t 1))))⟩, ⟨16, (.some 31), (.some (23, .true)), (.o (.call 10 [(.t 30)]))⟩, ⟨17, (.some 32), (.some (23, .true)),
    (.o (.s (.bin .add (.t 29) (.t 31))))⟩, ⟨18, (.some 33), (.some (23, .true)), (.o (.s (.bin .eql (.t 27) (.t 32))))⟩, ⟨19, (.some 34), .none, (.o (.s (.pick (.t 23)
    (.t 33) (.k (.bool .false)))))⟩, ⟨20, (.some 4), .none, (.o (.s (.mv (.t 34))))⟩]) .ret)))
noncomputable def F3b : Go.Code := Go.Proofs.Try.f3.body.getD .skip
theorem F3c : comp C [] F3b = some F3s.er := by kernel_rfl
theorem F3w : F3s.wf = true := by kernel_rfl
theorem F3d : Go.Proofs.Try.f3.body = some F3b := by kernel_rfl
@[simp] def F3q : List RV2 := [(.o (.tmp 4))]
theorem F3r : compRVs C Go.Proofs.Try.f3.results.toList = some (F3q.map RV2.er) := by kernel_rfl
theorem F3e : Enters Go.Proofs.Try.prog 3 := enters_of Go.Proofs.Try.func3 (by kernel_rfl) (by kernel_rfl)

/-- scarf/scarflaw08.LayoutPages -- 0: box t2 -/
def F4s : S2 :=
  (.seq (.ops 2 [⟨0, (.some 2), .none, (.lbox 0 27 (.t 0))⟩, ⟨1, (.some 4), .none, (.o (.s (.mv (.k (.bool .false)))))⟩]) (.seq (.seq (.ops 3 [⟨0, (.some 9), .none,
    (.lload 0 (.some 3) (.t 2))⟩, ⟨1, (.some 10), .none, (.o (.call 12 [(.t 9)]))⟩, ⟨2, (.some 11), .none, (.o (.s (.un .not (.t 10))))⟩]) (.cond (.t 11)
    (.seq (.ops 2 [⟨0, (.some 12), .none, (.o (.call 9 []))⟩, ⟨1, (.some 4), .none, (.o (.s (.mv (.t 12))))⟩]) .ret) .skip)) (.seq (.ops 9 [⟨0, (.some 14), .none,
    (.lload 0 (.some 3) (.t 2))⟩, ⟨1, (.some 15), .none, (.o (.call 14 [(.t 14)]))⟩, ⟨2, (.some 16), .none, (.o (.s (.mv (.t 1))))⟩, ⟨3, (.some 17), .none,
    (.o (.call 13 [(.t 15), (.t 16)]))⟩, ⟨4, (.some 13), .none, (.o (.s (.mv (.t 17))))⟩, ⟨5, (.some 18), .none, (.o (.s (.ext (.t 13) 0)))⟩, ⟨6, (.some 19), .none,
    (.o (.s (.ext (.t 13) 1)))⟩, ⟨7, (.some 5), .none, (.o (.s (.mv (.t 18))))⟩, ⟨8, (.some 6), .none, (.o (.s (.mv (.t 19))))⟩]) (.seq (.ops 9 [⟨0, (.some 21), .none,
    (.lload 0 (.some 3) (.t 2))⟩, ⟨1, (.some 22), .none, (.o (.call 16 [(.t 21), (.k (.int .i64 (1000)))]))⟩, ⟨2, (.some 23), .none, (.o (.s (.mv (.t 1))))⟩, ⟨3,
    (.some 24), .none, (.o (.call 15 [(.t 22), (.t 23)]))⟩, ⟨4, (.some 20), .none, (.o (.s (.mv (.t 24))))⟩, ⟨5, (.some 25), .none, (.o (.s (.ext (.t 20) 0)))⟩, ⟨6,
    (.some 26), .none, (.o (.s (.ext (.t 20) 1)))⟩, ⟨7, (.some 7), .none, (.o (.s (.mv (.t 25))))⟩, ⟨8, (.some 8), .none, (.o (.s (.mv (.t 26))))⟩]) (.seq (.ops 12 [⟨0,
    (.some 27), .none, (.o (.call 9 []))⟩, ⟨1, (.some 28), .none, (.o (.s (.mv (.t 27))))⟩, ⟨2, (.some 29), (.some (28, .true)), (.o (.s (.mv (.t 5))))⟩, ⟨3, (.some 30),
    (.some (28, .true)), (.o (.s (.mv (.t 7))))⟩, ⟨4, (.some 31), (.some (28, .true)), (.o (.s (.bin .eql (.t 29) (.t 30))))⟩, ⟨5, (.some 32), .none,
    (.o (.s (.pick (.t 28) (.t 31) (.k (.bool .false)))))⟩, ⟨6, (.some 33), .none, (.o (.s (.mv (.t 32))))⟩, ⟨7, (.some 34), (.some (33, .true)), (.o (.s (.mv (.t 6))))⟩,
    ⟨8, (.some 35), (.some (33, .true)), (.o (.s (.mv (.t 8))))⟩, ⟨9, (.some 36), (.some (33, .true)), (.o (.s (.bin .eql (.t 34) (.t 35))))⟩, ⟨10, (.some 37), .none,
    (.o (.s (.pick (.t 33) (.t 36) (.k (.bool .false)))))⟩, ⟨11, (.some 4), .none, (.o (.s (.mv (.t 37))))⟩]) .ret)))))
noncomputable def F4b : Go.Code := Go.Proofs.Try.f4.body.getD .skip
theorem F4c : comp C [] F4b = some F4s.er := by kernel_rfl
theorem F4w : F4s.wf = true := by kernel_rfl
theorem F4d : Go.Proofs.Try.f4.body = some F4b := by kernel_rfl
@[simp] def F4q : List RV2 := [(.o (.tmp 4))]
theorem F4r : compRVs C Go.Proofs.Try.f4.results.toList = some (F4q.map RV2.er) := by kernel_rfl
theorem F4e : Enters Go.Proofs.Try.prog 4 := enters_of Go.Proofs.Try.func4 (by kernel_rfl) (by kernel_rfl)

/-- scarf/scarflaw08.LayoutWords -- 0: box t3; 1: box t7 -/
def F5l0 : S2 :=
  (.seq (.seq (.ops 8 [⟨0, (.some 90), .none, (.o (.s (.mv (.t 14))))⟩, ⟨1, (.some 91), .none, (.o (.s (.un .not (.t 90))))⟩, ⟨2, (.some 92), .none,
    (.o (.s (.mv (.t 91))))⟩, ⟨3, (.some 93), (.some (92, .true)), (.o (.s (.mv (.t 17))))⟩, ⟨4, (.some 94), (.some (92, .true)), (.o (.s (.mv (.t 8))))⟩, ⟨5, (.some 95),
    (.some (92, .true)), (.o (.s (.lens (.t 94))))⟩, ⟨6, (.some 96), (.some (92, .true)), (.o (.s (.bin .lss (.t 93) (.t 95))))⟩, ⟨7, (.some 97), .none,
    (.o (.s (.pick (.t 92) (.t 96) (.k (.bool .false)))))⟩]) (.cond (.t 97) .skip (.exit 4))) (.seq (.block 5 (.seq (.ops 18 [⟨0, (.some 100), .none,
    (.o (.s (.mv (.t 8))))⟩, ⟨1, (.some 101), .none, (.o (.s (.mv (.t 17))))⟩, ⟨2, (.some 102), .none, (.o (.s (.ixs (.t 100) (.t 101))))⟩, ⟨3, (.some 103), .none,
    (.o (.s (.bin .eql (.t 102) (.k (.int .u8 (9))))))⟩, ⟨4, (.some 104), .none, (.o (.s (.mv (.t 103))))⟩, ⟨5, (.some 105), (.some (104, .true)),
    (.o (.s (.mv (.t 17))))⟩, ⟨6, (.some 106), (.some (104, .true)), (.o (.s (.bin .add (.t 105) (.k (.int .i64 (1))))))⟩, ⟨7, (.some 107), (.some (104, .true)),
    (.o (.s (.mv (.t 8))))⟩, ⟨8, (.some 108), (.some (104, .true)), (.o (.s (.lens (.t 107))))⟩, ⟨9, (.some 109), (.some (104, .true)), (.o (.s (.bin .eql (.t 106)
    (.t 108))))⟩, ⟨10, (.some 110), (.some (104, .true)), (.o (.s (.mv (.t 109))))⟩, ⟨11, (.some 111), (.some (110, .false)), (.o (.s (.mv (.t 8))))⟩, ⟨12, (.some 112),
    (.some (110, .false)), (.o (.s (.mv (.t 17))))⟩, ⟨13, (.some 113), (.some (110, .false)), (.o (.s (.bin .add (.t 112) (.k (.int .i64 (1))))))⟩, ⟨14, (.some 114),
    (.some (110, .false)), (.o (.s (.ixs (.t 111) (.t 113))))⟩, ⟨15, (.some 115), (.some (110, .false)), (.o (.s (.bin .eql (.t 114) (.k (.int .u8 (10))))))⟩, ⟨16,
    (.some 116), (.some (104, .true)), (.o (.s (.pick (.t 110) (.k (.bool .true)) (.t 115))))⟩, ⟨17, (.some 117), .none, (.o (.s (.pick (.t 104) (.t 116)
    (.k (.bool .false)))))⟩]) (.cond (.t 117) (.seq (.ops 1 [⟨0, (.some 6), .none, (.o (.s (.mv (.k (.bool .false)))))⟩]) .ret) .skip))) (.ops 3 [⟨0, (.some 98), .none,
    (.o (.s (.mv (.t 17))))⟩, ⟨1, (.some 99), .none, (.o (.s (.bin .add (.t 98) (.k (.int .i64 (1))))))⟩, ⟨2, (.some 17), .none, (.o (.s (.mv (.t 99))))⟩])))
theorem F5l0w : F5l0.wf = true := by kernel_rfl
def F5l1 : S2 :=
  (.seq (.seq (.ops 8 [⟨0, (.some 59), .none, (.o (.s (.mv (.t 16))))⟩, ⟨1, (.some 60), .none, (.o (.s (.mv (.t 13))))⟩, ⟨2, (.some 61), .none, (.o (.s (.mv (.t 15))))⟩, ⟨3,
    (.some 62), .none, (.o (.s (.ia 2 (.t 60) (.t 61))))⟩, ⟨4, (.some 63), .none, (.o (.s (.fa 1 (.t 62))))⟩, ⟨5, (.some 64), .none, (.o (.s (.load .none (.t 63))))⟩, ⟨6,
    (.some 65), .none, (.o (.s (.lens (.t 64))))⟩, ⟨7, (.some 66), .none, (.o (.s (.bin .lss (.t 59) (.t 65))))⟩]) (.cond (.t 66) .skip (.exit 2)))
    (.seq (.block 3 (.ops 22 [⟨0, (.some 69), .none, (.o (.s (.mv (.t 14))))⟩, ⟨1, (.some 70), .none, (.o (.s (.mv (.t 69))))⟩, ⟨2, (.some 71), (.some (70, .false)),
    (.o (.s (.mv (.t 13))))⟩, ⟨3, (.some 72), (.some (70, .false)), (.o (.s (.mv (.t 15))))⟩, ⟨4, (.some 73), (.some (70, .false)), (.o (.s (.ia 2 (.t 71) (.t 72))))⟩, ⟨5,
    (.some 74), (.some (70, .false)), (.o (.s (.fa 1 (.t 73))))⟩, ⟨6, (.some 75), (.some (70, .false)), (.o (.s (.load .none (.t 74))))⟩, ⟨7, (.some 76), (.some (70,
    .false)), (.o (.s (.mv (.t 16))))⟩, ⟨8, (.some 77), (.some (70, .false)), (.o (.s (.ixs (.t 75) (.t 76))))⟩, ⟨9, (.some 78), (.some (70, .false)),
    (.o (.s (.bin .eql (.t 77) (.k (.int .u8 (9))))))⟩, ⟨10, (.some 79), .none, (.o (.s (.pick (.t 70) (.k (.bool .true)) (.t 78))))⟩, ⟨11, (.some 80), .none,
    (.o (.s (.mv (.t 79))))⟩, ⟨12, (.some 81), (.some (80, .false)), (.o (.s (.mv (.t 13))))⟩, ⟨13, (.some 82), (.some (80, .false)), (.o (.s (.mv (.t 15))))⟩, ⟨14,
    (.some 83), (.some (80, .false)), (.o (.s (.ia 2 (.t 81) (.t 82))))⟩, ⟨15, (.some 84), (.some (80, .false)), (.o (.s (.fa 1 (.t 83))))⟩, ⟨16, (.some 85), (.some (80,
    .false)), (.o (.s (.load .none (.t 84))))⟩, ⟨17, (.some 86), (.some (80, .false)), (.o (.s (.mv (.t 16))))⟩, ⟨18, (.some 87), (.some (80, .false)),
    (.o (.s (.ixs (.t 85) (.t 86))))⟩, ⟨19, (.some 88), (.some (80, .false)), (.o (.s (.bin .eql (.t 87) (.k (.int .u8 (10))))))⟩, ⟨20, (.some 89), .none,
    (.o (.s (.pick (.t 80) (.k (.bool .true)) (.t 88))))⟩, ⟨21, (.some 14), .none, (.o (.s (.mv (.t 89))))⟩])) (.ops 3 [⟨0, (.some 67), .none, (.o (.s (.mv (.t 16))))⟩,
    ⟨1, (.some 68), .none, (.o (.s (.bin .add (.t 67) (.k (.int .i64 (1))))))⟩, ⟨2, (.some 16), .none, (.o (.s (.mv (.t 68))))⟩])))
theorem F5l1w : F5l1.wf = true := by kernel_rfl
def F5l2 : S2 :=
  (.seq (.seq (.ops 4 [⟨0, (.some 40), .none, (.o (.s (.mv (.t 15))))⟩, ⟨1, (.some 41), .none, (.o (.s (.mv (.t 13))))⟩, ⟨2, (.some 42), .none, (.o (.s (.len (.t 41))))⟩,
    ⟨3, (.some 43), .none, (.o (.s (.bin .lss (.t 40) (.t 42))))⟩]) (.cond (.t 43) .skip (.exit 0))) (.seq (.block 1 (.seq (.ops 6 [⟨0, (.some 46), .none,
    (.o (.s (.mv (.t 13))))⟩, ⟨1, (.some 47), .none, (.o (.s (.mv (.t 15))))⟩, ⟨2, (.some 48), .none, (.o (.s (.ia 2 (.t 46) (.t 47))))⟩, ⟨3, (.some 49), .none,
    (.o (.s (.fa 0 (.t 48))))⟩, ⟨4, (.some 50), .none, (.o (.s (.load .none (.t 49))))⟩, ⟨5, (.some 51), .none, (.o (.s (.bin .eql (.t 50) (.k (.int .i64 (1))))))⟩])
    (.cond (.t 51) (.seq (.ops 8 [⟨0, (.some 52), .none, (.o (.s (.mv (.t 12))))⟩, ⟨1, (.some 53), .none, (.o (.s (.mv (.t 13))))⟩, ⟨2, (.some 54), .none,
    (.o (.s (.mv (.t 15))))⟩, ⟨3, (.some 55), .none, (.o (.s (.ia 2 (.t 53) (.t 54))))⟩, ⟨4, (.some 56), .none, (.o (.s (.fa 1 (.t 55))))⟩, ⟨5, (.some 57), .none,
    (.o (.s (.load .none (.t 56))))⟩, ⟨6, (.some 58), .none, (.o (.s (.bin .add (.t 52) (.t 57))))⟩, ⟨7, (.some 12), .none, (.o (.s (.mv (.t 58))))⟩]) (.seq (.ops 1 [⟨0,
    (.some 16), .none, (.o (.s (.mv (.k (.int .i64 (0))))))⟩]) (.block 2 (.loop F5l1)))) .skip))) (.ops 3 [⟨0, (.some 44), .none, (.o (.s (.mv (.t 15))))⟩, ⟨1, (.some 45),
    .none, (.o (.s (.bin .add (.t 44) (.k (.int .i64 (1))))))⟩, ⟨2, (.some 15), .none, (.o (.s (.mv (.t 45))))⟩])))
theorem F5l2w : F5l2.wf = true := by kernel_rfl
def F5s : S2 :=
  (.seq (.ops 2 [⟨0, (.some 3), .none, (.lbox 0 27 (.t 0))⟩, ⟨1, (.some 6), .none, (.o (.s (.mv (.k (.bool .false)))))⟩]) (.seq (.seq (.ops 3 [⟨0, (.some 18), .none,
    (.lload 0 (.some 3) (.t 3))⟩, ⟨1, (.some 19), .none, (.o (.call 12 [(.t 18)]))⟩, ⟨2, (.some 20), .none, (.o (.s (.un .not (.t 19))))⟩]) (.cond (.t 20)
    (.seq (.ops 2 [⟨0, (.some 21), .none, (.o (.call 9 []))⟩, ⟨1, (.some 6), .none, (.o (.s (.mv (.t 21))))⟩]) .ret) .skip)) (.seq (.ops 4 [⟨0, (.some 22), .none,
    (.lload 0 (.some 3) (.t 3))⟩, ⟨1, (.some 23), .none, (.o (.call 14 [(.t 22)]))⟩, ⟨2, (.some 7), .none, (.lalloc 1 34 [(.int .i64 (0)), (.str []), .nils])⟩, ⟨3, .none,
    .none, (.lstore 1 3 (.t 7) (.t 23))⟩]) (.seq (.dops 9 [(⟨1, (.some 26), .none, (.o (.s (.mv (.t 1))))⟩, (.mk 0 [])), (⟨2, (.some 27), .none,
    (.o (.call 17 [(.t 26)]))⟩, (.mk 0 [])), (⟨0, (.some 25), .none, (.lload 1 (.some 3) (.t 7))⟩, (.mk 1 [])), (⟨3, (.some 28), .none, (.o (.call 13 [(.t 25),
    (.t 27)]))⟩, (.mk 0 [])), (⟨4, (.some 24), .none, (.o (.s (.mv (.t 28))))⟩, (.mk 0 [])), (⟨5, (.some 29), .none, (.o (.s (.ext (.t 24) 0)))⟩, (.mk 0 [])), (⟨6,
    (.some 30), .none, (.o (.s (.ext (.t 24) 1)))⟩, (.mk 0 [])), (⟨7, (.some 8), .none, (.o (.s (.mv (.t 29))))⟩, (.mk 0 [])), (⟨8, (.some 9), .none,
    (.o (.s (.mv (.t 30))))⟩, (.mk 0 []))]) (.seq (.dops 9 [(⟨1, (.some 33), .none, (.o (.s (.mv (.t 2))))⟩, (.mk 0 [])), (⟨2, (.some 34), .none,
    (.o (.call 17 [(.t 33)]))⟩, (.mk 0 [])), (⟨0, (.some 32), .none, (.lload 1 (.some 3) (.t 7))⟩, (.mk 1 [])), (⟨3, (.some 35), .none, (.o (.call 13 [(.t 32),
    (.t 34)]))⟩, (.mk 0 [])), (⟨4, (.some 31), .none, (.o (.s (.mv (.t 35))))⟩, (.mk 0 [])), (⟨5, (.some 36), .none, (.o (.s (.ext (.t 31) 0)))⟩, (.mk 0 [])), (⟨6,
    (.some 37), .none, (.o (.s (.ext (.t 31) 1)))⟩, (.mk 0 [])), (⟨7, (.some 10), .none, (.o (.s (.mv (.t 36))))⟩, (.mk 0 [])), (⟨8, (.some 11), .none,
    (.o (.s (.mv (.t 37))))⟩, (.mk 0 []))]) (.seq (.ops 1 [⟨0, (.some 12), .none, (.o (.s (.mv (.k (.str [])))))⟩]) (.seq (.ops 3 [⟨0, (.some 38), .none,
    (.lload 1 (.some 3) (.t 7))⟩, ⟨1, (.some 39), .none, (.o (.call 18 [(.t 38)]))⟩, ⟨2, (.some 13), .none, (.o (.s (.mv (.t 39))))⟩]) (.seq (.ops 1 [⟨0, (.some 14),
    .none, (.o (.s (.mv (.k (.bool .false)))))⟩]) (.seq (.seq (.ops 1 [⟨0, (.some 15), .none, (.o (.s (.mv (.k (.int .i64 (0))))))⟩]) (.block 0 (.loop F5l2)))
    (.seq (.seq (.ops 1 [⟨0, (.some 17), .none, (.o (.s (.mv (.k (.int .i64 (0))))))⟩]) (.block 4 (.loop F5l0))) (.seq (.ops 24 [⟨0, (.some 118), .none,
    (.o (.call 9 []))⟩, ⟨1, (.some 119), .none, (.o (.s (.mv (.t 118))))⟩, ⟨2, (.some 120), (.some (119, .true)), (.o (.s (.mv (.t 9))))⟩, ⟨3, (.some 121), (.some (119,
    .true)), (.o (.s (.bin .eql (.t 120) (.k (.int .i64 (0))))))⟩, ⟨4, (.some 122), .none, (.o (.s (.pick (.t 119) (.t 121) (.k (.bool .false)))))⟩, ⟨5, (.some 123),
    .none, (.o (.s (.mv (.t 122))))⟩, ⟨6, (.some 124), (.some (123, .true)), (.o (.s (.mv (.t 11))))⟩, ⟨7, (.some 125), (.some (123, .true)), (.o (.s (.bin .eql (.t 124)
    (.k (.int .i64 (0))))))⟩, ⟨8, (.some 126), .none, (.o (.s (.pick (.t 123) (.t 125) (.k (.bool .false)))))⟩, ⟨9, (.some 127), .none, (.o (.s (.mv (.t 126))))⟩, ⟨10,
    (.some 128), (.some (127, .true)), (.o (.s (.mv (.t 8))))⟩, ⟨11, (.some 129), (.some (127, .true)), (.o (.call 19 [(.t 128)]))⟩, ⟨12, (.some 130), (.some (127,
    .true)), (.o (.s (.mv (.t 12))))⟩, ⟨13, (.some 131), (.some (127, .true)), (.o (.call 19 [(.t 130)]))⟩, ⟨14, (.some 132), (.some (127, .true)),
    (.o (.s (.bin .eql (.t 129) (.t 131))))⟩, ⟨15, (.some 133), .none, (.o (.s (.pick (.t 127) (.t 132) (.k (.bool .false)))))⟩, ⟨16, (.some 134), .none,
    (.o (.s (.mv (.t 133))))⟩, ⟨17, (.some 135), (.some (134, .true)), (.o (.s (.mv (.t 10))))⟩, ⟨18, (.some 136), (.some (134, .true)), (.o (.call 19 [(.t 135)]))⟩, ⟨19,
    (.some 137), (.some (134, .true)), (.o (.s (.mv (.t 12))))⟩, ⟨20, (.some 138), (.some (134, .true)), (.o (.call 19 [(.t 137)]))⟩, ⟨21, (.some 139), (.some (134,
    .true)), (.o (.s (.bin .eql (.t 136) (.t 138))))⟩, ⟨22, (.some 140), .none, (.o (.s (.pick (.t 134) (.t 139) (.k (.bool .false)))))⟩, ⟨23, (.some 6), .none,
    (.o (.s (.mv (.t 140))))⟩]) .ret)))))))))))
noncomputable def F5b : Go.Code := Go.Proofs.Try.f5.body.getD .skip
theorem F5c : comp C [] F5b = some F5s.er := by kernel_rfl
theorem F5w : F5s.wf = true := by kernel_rfl
theorem F5d : Go.Proofs.Try.f5.body = some F5b := by kernel_rfl
@[simp] def F5q : List RV2 := [(.o (.tmp 6))]
theorem F5r : compRVs C Go.Proofs.Try.f5.results.toList = some (F5q.map RV2.er) := by kernel_rfl
theorem F5e : Enters Go.Proofs.Try.prog 5 := enters_of Go.Proofs.Try.func5 (by kernel_rfl) (by kernel_rfl)

/-- scarf/scarflaw08.LayoutJoins -- 0: box t3; 1: box t4; 2: box t7; 3: box t8 -/
def F6s : S2 :=
  (.seq (.ops 3 [⟨0, (.some 3), .none, (.lbox 0 27 (.t 0))⟩, ⟨1, (.some 4), .none, (.lbox 1 27 (.t 1))⟩, ⟨2, (.some 6), .none, (.o (.s (.mv (.k (.bool .false)))))⟩])
    (.seq (.seq (.ops 8 [⟨0, (.some 15), .none, (.lload 0 (.some 3) (.t 3))⟩, ⟨1, (.some 16), .none, (.o (.call 12 [(.t 15)]))⟩, ⟨2, (.some 17), .none,
    (.o (.s (.un .not (.t 16))))⟩, ⟨3, (.some 18), .none, (.o (.s (.mv (.t 17))))⟩, ⟨4, (.some 19), (.some (18, .false)), (.lload 1 (.some 3) (.t 4))⟩, ⟨5, (.some 20),
    (.some (18, .false)), (.o (.call 12 [(.t 19)]))⟩, ⟨6, (.some 21), (.some (18, .false)), (.o (.s (.un .not (.t 20))))⟩, ⟨7, (.some 22), .none, (.o (.s (.pick (.t 18)
    (.k (.bool .true)) (.t 21))))⟩]) (.cond (.t 22) (.seq (.ops 2 [⟨0, (.some 23), .none, (.o (.call 9 []))⟩, ⟨1, (.some 6), .none, (.o (.s (.mv (.t 23))))⟩]) .ret)
    .skip)) (.seq (.dops 8 [(⟨0, (.some 24), .none, (.lload 0 (.some 3) (.t 3))⟩, (.mk 1 [])), (⟨1, (.some 25), .none, (.o (.call 14 [(.t 24)]))⟩, (.mk 0 [])), (⟨2,
    (.some 26), .none, (.lload 1 (.some 3) (.t 4))⟩, (.mk 1 [])), (⟨3, (.some 27), .none, (.o (.call 14 [(.t 26)]))⟩, (.mk 0 [])), (⟨4, (.some 7), .none,
    (.lalloc 2 34 [(.int .i64 (0)), (.str []), .nils])⟩, (.mk 0 [4])), (⟨5, (.some 8), .none, (.lalloc 3 34 [(.int .i64 (0)), (.str []), .nils])⟩, (.mk 0 [5])), (⟨6,
    .none, .none, (.lstore 2 3 (.t 7) (.t 25))⟩, (.mk 0 [4])), (⟨7, .none, .none, (.lstore 3 3 (.t 8) (.t 27))⟩, (.mk 0 [5]))]) (.seq (.dops 13 [(⟨5, (.some 34), .none,
    (.o (.s (.mv (.t 2))))⟩, (.mk 0 [])), (⟨1, (.some 30), .none, (.o (.call 21 []))⟩, (.mk 0 [])), (⟨0, (.some 29), .none, (.lload 2 (.some 3) (.t 7))⟩, (.mk 1 [])), (⟨2,
    (.some 31), .none, (.lload 3 (.some 3) (.t 8))⟩, (.mk 1 [])), (⟨3, (.some 32), .none, (.lbsl 4 34 3 3 [(.int .i64 (0)), (.str []), .nils] [(0, (.t 29)), (1, (.t 30)),
    (2, (.t 31))] .false)⟩, (.mk 0 [3])), (⟨4, (.some 33), .none, (.o (.call 20 [(.t 32)]))⟩, (.mk 0 [])), (⟨6, (.some 35), .none, (.o (.call 17 [(.t 34)]))⟩, (.mk 0 [])),
    (⟨7, (.some 36), .none, (.o (.call 13 [(.t 33), (.t 35)]))⟩, (.mk 0 [])), (⟨8, (.some 28), .none, (.o (.s (.mv (.t 36))))⟩, (.mk 0 [])), (⟨9, (.some 37), .none,
    (.o (.s (.ext (.t 28) 0)))⟩, (.mk 0 [])), (⟨10, (.some 38), .none, (.o (.s (.ext (.t 28) 1)))⟩, (.mk 0 [])), (⟨11, (.some 9), .none, (.o (.s (.mv (.t 37))))⟩,
    (.mk 0 [])), (⟨12, (.some 10), .none, (.o (.s (.mv (.t 38))))⟩, (.mk 0 []))]) (.seq (.dops 12 [(⟨4, (.some 44), .none, (.o (.s (.mv (.t 2))))⟩, (.mk 0 [])), (⟨1,
    (.some 41), .none, (.o (.call 21 []))⟩, (.mk 0 [])), (⟨0, (.some 40), .none, (.lload 2 (.some 3) (.t 7))⟩, (.mk 1 [])), (⟨2, (.some 42), .none,
    (.lbsl 4 34 3 2 [(.int .i64 (0)), (.str []), .nils] [(0, (.t 40)), (1, (.t 41))] .false)⟩, (.mk 0 [2])), (⟨3, (.some 43), .none, (.o (.call 20 [(.t 42)]))⟩,
    (.mk 0 [])), (⟨5, (.some 45), .none, (.o (.call 17 [(.t 44)]))⟩, (.mk 0 [])), (⟨6, (.some 46), .none, (.o (.call 13 [(.t 43), (.t 45)]))⟩, (.mk 0 [])), (⟨7,
    (.some 39), .none, (.o (.s (.mv (.t 46))))⟩, (.mk 0 [])), (⟨8, (.some 47), .none, (.o (.s (.ext (.t 39) 0)))⟩, (.mk 0 [])), (⟨9, (.some 48), .none,
    (.o (.s (.ext (.t 39) 1)))⟩, (.mk 0 [])), (⟨10, (.some 11), .none, (.o (.s (.mv (.t 47))))⟩, (.mk 0 [])), (⟨11, (.some 12), .none, (.o (.s (.mv (.t 48))))⟩,
    (.mk 0 []))]) (.seq (.dops 9 [(⟨1, (.some 51), .none, (.o (.s (.mv (.t 2))))⟩, (.mk 0 [])), (⟨2, (.some 52), .none, (.o (.call 17 [(.t 51)]))⟩, (.mk 0 [])), (⟨0,
    (.some 50), .none, (.lload 3 (.some 3) (.t 8))⟩, (.mk 1 [])), (⟨3, (.some 53), .none, (.o (.call 13 [(.t 50), (.t 52)]))⟩, (.mk 0 [])), (⟨4, (.some 49), .none,
    (.o (.s (.mv (.t 53))))⟩, (.mk 0 [])), (⟨5, (.some 54), .none, (.o (.s (.ext (.t 49) 0)))⟩, (.mk 0 [])), (⟨6, (.some 55), .none, (.o (.s (.ext (.t 49) 1)))⟩,
    (.mk 0 [])), (⟨7, (.some 13), .none, (.o (.s (.mv (.t 54))))⟩, (.mk 0 [])), (⟨8, (.some 14), .none, (.o (.s (.mv (.t 55))))⟩, (.mk 0 []))]) (.seq (.ops 21 [⟨0,
    (.some 56), .none, (.o (.call 9 []))⟩, ⟨1, (.some 57), .none, (.o (.s (.mv (.t 56))))⟩, ⟨2, (.some 58), (.some (57, .true)), (.o (.s (.mv (.t 10))))⟩, ⟨3, (.some 59),
    (.some (57, .true)), (.o (.s (.bin .eql (.t 58) (.k (.int .i64 (0))))))⟩, ⟨4, (.some 60), .none, (.o (.s (.pick (.t 57) (.t 59) (.k (.bool .false)))))⟩, ⟨5,
    (.some 61), .none, (.o (.s (.mv (.t 60))))⟩, ⟨6, (.some 62), (.some (61, .true)), (.o (.s (.mv (.t 12))))⟩, ⟨7, (.some 63), (.some (61, .true)),
    (.o (.s (.bin .eql (.t 62) (.k (.int .i64 (0))))))⟩, ⟨8, (.some 64), .none, (.o (.s (.pick (.t 61) (.t 63) (.k (.bool .false)))))⟩, ⟨9, (.some 65), .none,
    (.o (.s (.mv (.t 64))))⟩, ⟨10, (.some 66), (.some (65, .true)), (.o (.s (.mv (.t 14))))⟩, ⟨11, (.some 67), (.some (65, .true)), (.o (.s (.bin .eql (.t 66)
    (.k (.int .i64 (0))))))⟩, ⟨12, (.some 68), .none, (.o (.s (.pick (.t 65) (.t 67) (.k (.bool .false)))))⟩, ⟨13, (.some 69), .none, (.o (.s (.mv (.t 68))))⟩, ⟨14,
    (.some 70), (.some (69, .true)), (.o (.s (.mv (.t 9))))⟩, ⟨15, (.some 71), (.some (69, .true)), (.o (.s (.mv (.t 11))))⟩, ⟨16, (.some 72), (.some (69, .true)),
    (.o (.s (.mv (.t 13))))⟩, ⟨17, (.some 73), (.some (69, .true)), (.o (.s (.bin .add (.t 71) (.t 72))))⟩, ⟨18, (.some 74), (.some (69, .true)),
    (.o (.s (.bin .eql (.t 70) (.t 73))))⟩, ⟨19, (.some 75), .none, (.o (.s (.pick (.t 69) (.t 74) (.k (.bool .false)))))⟩, ⟨20, (.some 6), .none,
    (.o (.s (.mv (.t 75))))⟩]) .ret)))))))
noncomputable def F6b : Go.Code := Go.Proofs.Try.f6.body.getD .skip
theorem F6c : comp C [] F6b = some F6s.er := by kernel_rfl
theorem F6w : F6s.wf = true := by kernel_rfl
theorem F6d : Go.Proofs.Try.f6.body = some F6b := by kernel_rfl
@[simp] def F6q : List RV2 := [(.o (.tmp 6))]
theorem F6r : compRVs C Go.Proofs.Try.f6.results.toList = some (F6q.map RV2.er) := by kernel_rfl
theorem F6e : Enters Go.Proofs.Try.prog 6 := enters_of Go.Proofs.Try.func6 (by kernel_rfl) (by kernel_rfl)

/-- scarf/scarflaw08.LayoutTwice -- 0: box t2; 1: box t5 -/
def F7l0 : S2 :=
  (.seq (.seq (.ops 4 [⟨0, (.some 42), .none, (.o (.s (.mv (.t 12))))⟩, ⟨1, (.some 43), .none, (.o (.s (.mv (.t 10))))⟩, ⟨2, (.some 44), .none, (.o (.s (.len (.t 43))))⟩,
    ⟨3, (.some 45), .none, (.o (.s (.bin .lss (.t 42) (.t 44))))⟩]) (.cond (.t 45) .skip (.exit 0))) (.seq (.block 1 (.ops 18 [⟨0, (.some 48), .none,
    (.o (.s (.mv (.t 11))))⟩, ⟨1, (.some 49), .none, (.o (.s (.mv (.t 48))))⟩, ⟨2, (.some 50), (.some (49, .false)), (.o (.s (.mv (.t 10))))⟩, ⟨3, (.some 51), (.some (49,
    .false)), (.o (.s (.mv (.t 12))))⟩, ⟨4, (.some 52), (.some (49, .false)), (.o (.s (.ia 2 (.t 50) (.t 51))))⟩, ⟨5, (.some 53), (.some (49, .false)),
    (.o (.s (.fa 0 (.t 52))))⟩, ⟨6, (.some 54), (.some (49, .false)), (.o (.s (.load .none (.t 53))))⟩, ⟨7, (.some 55), (.some (49, .false)), (.o (.s (.bin .geq (.t 54)
    (.k (.int .i64 (2))))))⟩, ⟨8, (.some 56), (.some (49, .false)), (.o (.s (.mv (.t 55))))⟩, ⟨9, (.some 57), (.some (56, .true)), (.o (.s (.mv (.t 10))))⟩, ⟨10,
    (.some 58), (.some (56, .true)), (.o (.s (.mv (.t 12))))⟩, ⟨11, (.some 59), (.some (56, .true)), (.o (.s (.ia 2 (.t 57) (.t 58))))⟩, ⟨12, (.some 60), (.some (56,
    .true)), (.o (.s (.fa 0 (.t 59))))⟩, ⟨13, (.some 61), (.some (56, .true)), (.o (.s (.load .none (.t 60))))⟩, ⟨14, (.some 62), (.some (56, .true)),
    (.o (.s (.bin .leq (.t 61) (.k (.int .i64 (4))))))⟩, ⟨15, (.some 63), (.some (49, .false)), (.o (.s (.pick (.t 56) (.t 62) (.k (.bool .false)))))⟩, ⟨16, (.some 64),
    .none, (.o (.s (.pick (.t 49) (.k (.bool .true)) (.t 63))))⟩, ⟨17, (.some 11), .none, (.o (.s (.mv (.t 64))))⟩])) (.ops 3 [⟨0, (.some 46), .none,
    (.o (.s (.mv (.t 12))))⟩, ⟨1, (.some 47), .none, (.o (.s (.bin .add (.t 46) (.k (.int .i64 (1))))))⟩, ⟨2, (.some 12), .none, (.o (.s (.mv (.t 47))))⟩])))
theorem F7l0w : F7l0.wf = true := by kernel_rfl
def F7s : S2 :=
  (.seq (.ops 2 [⟨0, (.some 2), .none, (.lbox 0 27 (.t 0))⟩, ⟨1, (.some 4), .none, (.o (.s (.mv (.k (.bool .false)))))⟩]) (.seq (.seq (.ops 3 [⟨0, (.some 17), .none,
    (.lload 0 (.some 3) (.t 2))⟩, ⟨1, (.some 18), .none, (.o (.call 12 [(.t 17)]))⟩, ⟨2, (.some 19), .none, (.o (.s (.un .not (.t 18))))⟩]) (.cond (.t 19)
    (.seq (.ops 2 [⟨0, (.some 20), .none, (.o (.call 9 []))⟩, ⟨1, (.some 4), .none, (.o (.s (.mv (.t 20))))⟩]) .ret) .skip)) (.seq (.ops 4 [⟨0, (.some 21), .none,
    (.lload 0 (.some 3) (.t 2))⟩, ⟨1, (.some 22), .none, (.o (.call 14 [(.t 21)]))⟩, ⟨2, (.some 5), .none, (.lalloc 1 34 [(.int .i64 (0)), (.str []), .nils])⟩, ⟨3, .none,
    .none, (.lstore 1 3 (.t 5) (.t 22))⟩]) (.seq (.ops 10 [⟨0, (.some 24), .none, (.lload 1 (.some 3) (.t 5))⟩, ⟨1, (.some 25), .none, (.o (.call 22 [(.t 24)]))⟩, ⟨2,
    (.some 26), .none, (.o (.s (.mv (.t 1))))⟩, ⟨3, (.some 27), .none, (.o (.call 17 [(.t 26)]))⟩, ⟨4, (.some 28), .none, (.o (.call 13 [(.t 25), (.t 27)]))⟩, ⟨5,
    (.some 23), .none, (.o (.s (.mv (.t 28))))⟩, ⟨6, (.some 29), .none, (.o (.s (.ext (.t 23) 0)))⟩, ⟨7, (.some 30), .none, (.o (.s (.ext (.t 23) 1)))⟩, ⟨8, (.some 6),
    .none, (.o (.s (.mv (.t 29))))⟩, ⟨9, (.some 7), .none, (.o (.s (.mv (.t 30))))⟩]) (.seq (.ops 11 [⟨0, (.some 32), .none, (.lload 1 (.some 3) (.t 5))⟩, ⟨1, (.some 33),
    .none, (.o (.call 22 [(.t 32)]))⟩, ⟨2, (.some 34), .none, (.o (.call 22 [(.t 33)]))⟩, ⟨3, (.some 35), .none, (.o (.s (.mv (.t 1))))⟩, ⟨4, (.some 36), .none,
    (.o (.call 17 [(.t 35)]))⟩, ⟨5, (.some 37), .none, (.o (.call 13 [(.t 34), (.t 36)]))⟩, ⟨6, (.some 31), .none, (.o (.s (.mv (.t 37))))⟩, ⟨7, (.some 38), .none,
    (.o (.s (.ext (.t 31) 0)))⟩, ⟨8, (.some 39), .none, (.o (.s (.ext (.t 31) 1)))⟩, ⟨9, (.some 8), .none, (.o (.s (.mv (.t 38))))⟩, ⟨10, (.some 9), .none,
    (.o (.s (.mv (.t 39))))⟩]) (.seq (.ops 3 [⟨0, (.some 40), .none, (.lload 1 (.some 3) (.t 5))⟩, ⟨1, (.some 41), .none, (.o (.call 18 [(.t 40)]))⟩, ⟨2, (.some 10),
    .none, (.o (.s (.mv (.t 41))))⟩]) (.seq (.ops 1 [⟨0, (.some 11), .none, (.o (.s (.mv (.k (.bool .false)))))⟩]) (.seq (.seq (.ops 1 [⟨0, (.some 12), .none,
    (.o (.s (.mv (.k (.int .i64 (0))))))⟩]) (.block 0 (.loop F7l0))) (.seq (.dops 9 [(⟨1, (.some 67), .none, (.o (.s (.mv (.t 1))))⟩, (.mk 0 [])), (⟨2, (.some 68), .none,
    (.o (.call 17 [(.t 67)]))⟩, (.mk 0 [])), (⟨0, (.some 66), .none, (.lload 1 (.some 3) (.t 5))⟩, (.mk 1 [])), (⟨3, (.some 69), .none, (.o (.call 13 [(.t 66),
    (.t 68)]))⟩, (.mk 0 [])), (⟨4, (.some 65), .none, (.o (.s (.mv (.t 69))))⟩, (.mk 0 [])), (⟨5, (.some 70), .none, (.o (.s (.ext (.t 65) 0)))⟩, (.mk 0 [])), (⟨6,
    (.some 71), .none, (.o (.s (.ext (.t 65) 1)))⟩, (.mk 0 [])), (⟨7, (.some 13), .none, (.o (.s (.mv (.t 70))))⟩, (.mk 0 [])), (⟨8, (.some 14), .none,
    (.o (.s (.mv (.t 71))))⟩, (.mk 0 []))]) (.seq (.ops 10 [⟨0, (.some 73), .none, (.lload 1 (.some 3) (.t 5))⟩, ⟨1, (.some 74), .none, (.o (.call 23 [(.t 73)]))⟩, ⟨2,
    (.some 75), .none, (.o (.s (.mv (.t 1))))⟩, ⟨3, (.some 76), .none, (.o (.call 17 [(.t 75)]))⟩, ⟨4, (.some 77), .none, (.o (.call 13 [(.t 74), (.t 76)]))⟩, ⟨5,
    (.some 72), .none, (.o (.s (.mv (.t 77))))⟩, ⟨6, (.some 78), .none, (.o (.s (.ext (.t 72) 0)))⟩, ⟨7, (.some 79), .none, (.o (.s (.ext (.t 72) 1)))⟩, ⟨8, (.some 15),
    .none, (.o (.s (.mv (.t 78))))⟩, ⟨9, (.some 16), .none, (.o (.s (.mv (.t 79))))⟩]) (.seq (.ops 31 [⟨0, (.some 80), .none, (.o (.call 9 []))⟩, ⟨1, (.some 81), .none,
    (.o (.s (.mv (.t 80))))⟩, ⟨2, (.some 82), (.some (81, .true)), (.o (.s (.mv (.t 7))))⟩, ⟨3, (.some 83), (.some (81, .true)), (.o (.s (.bin .eql (.t 82)
    (.k (.int .i64 (0))))))⟩, ⟨4, (.some 84), .none, (.o (.s (.pick (.t 81) (.t 83) (.k (.bool .false)))))⟩, ⟨5, (.some 85), .none, (.o (.s (.mv (.t 84))))⟩, ⟨6,
    (.some 86), (.some (85, .true)), (.o (.s (.mv (.t 9))))⟩, ⟨7, (.some 87), (.some (85, .true)), (.o (.s (.bin .eql (.t 86) (.k (.int .i64 (0))))))⟩, ⟨8, (.some 88),
    .none, (.o (.s (.pick (.t 85) (.t 87) (.k (.bool .false)))))⟩, ⟨9, (.some 89), .none, (.o (.s (.mv (.t 88))))⟩, ⟨10, (.some 90), (.some (89, .true)),
    (.o (.s (.mv (.t 14))))⟩, ⟨11, (.some 91), (.some (89, .true)), (.o (.s (.bin .eql (.t 90) (.k (.int .i64 (0))))))⟩, ⟨12, (.some 92), .none, (.o (.s (.pick (.t 89)
    (.t 91) (.k (.bool .false)))))⟩, ⟨13, (.some 93), .none, (.o (.s (.mv (.t 92))))⟩, ⟨14, (.some 94), (.some (93, .true)), (.o (.s (.mv (.t 16))))⟩, ⟨15, (.some 95),
    (.some (93, .true)), (.o (.s (.bin .eql (.t 94) (.k (.int .i64 (0))))))⟩, ⟨16, (.some 96), .none, (.o (.s (.pick (.t 93) (.t 95) (.k (.bool .false)))))⟩, ⟨17,
    (.some 97), .none, (.o (.s (.mv (.t 96))))⟩, ⟨18, (.some 98), (.some (97, .true)), (.o (.s (.mv (.t 6))))⟩, ⟨19, (.some 99), (.some (97, .true)),
    (.o (.s (.mv (.t 8))))⟩, ⟨20, (.some 100), (.some (97, .true)), (.o (.s (.bin .eql (.t 98) (.t 99))))⟩, ⟨21, (.some 101), .none, (.o (.s (.pick (.t 97) (.t 100)
    (.k (.bool .false)))))⟩, ⟨22, (.some 102), .none, (.o (.s (.mv (.t 101))))⟩, ⟨23, (.some 103), (.some (102, .true)), (.o (.s (.mv (.t 11))))⟩, ⟨24, (.some 104),
    (.some (102, .true)), (.o (.s (.mv (.t 103))))⟩, ⟨25, (.some 105), (.some (104, .false)), (.o (.s (.mv (.t 13))))⟩, ⟨26, (.some 106), (.some (104, .false)),
    (.o (.s (.mv (.t 15))))⟩, ⟨27, (.some 107), (.some (104, .false)), (.o (.s (.bin .eql (.t 105) (.t 106))))⟩, ⟨28, (.some 108), (.some (102, .true)),
    (.o (.s (.pick (.t 104) (.k (.bool .true)) (.t 107))))⟩, ⟨29, (.some 109), .none, (.o (.s (.pick (.t 102) (.t 108) (.k (.bool .false)))))⟩, ⟨30, (.some 4), .none,
    (.o (.s (.mv (.t 109))))⟩]) .ret)))))))))))
noncomputable def F7b : Go.Code := Go.Proofs.Try.f7.body.getD .skip
theorem F7c : comp C [] F7b = some F7s.er := by kernel_rfl
theorem F7w : F7s.wf = true := by kernel_rfl
theorem F7d : Go.Proofs.Try.f7.body = some F7b := by kernel_rfl
@[simp] def F7q : List RV2 := [(.o (.tmp 4))]
theorem F7r : compRVs C Go.Proofs.Try.f7.results.toList = some (F7q.map RV2.er) := by kernel_rfl
theorem F7e : Enters Go.Proofs.Try.prog 7 := enters_of Go.Proofs.Try.func7 (by kernel_rfl) (by kernel_rfl)

/-- scarf/scarflaw08.LayoutFlat -- 0: box t2; 1: box t5 -/
def F8l0 : S2 :=
  (.seq (.seq (.ops 4 [⟨0, (.some 107), .none, (.o (.s (.mv (.t 17))))⟩, ⟨1, (.some 108), .none, (.o (.s (.mv (.t 8))))⟩, ⟨2, (.some 109), .none,
    (.o (.s (.lens (.t 108))))⟩, ⟨3, (.some 110), .none, (.o (.s (.bin .lss (.t 107) (.t 109))))⟩]) (.cond (.t 110) .skip (.exit 4))) (.seq (.block 5 (.seq (.ops 4 [⟨0,
    (.some 113), .none, (.o (.s (.mv (.t 8))))⟩, ⟨1, (.some 114), .none, (.o (.s (.mv (.t 17))))⟩, ⟨2, (.some 115), .none, (.o (.s (.ixs (.t 113) (.t 114))))⟩, ⟨3,
    (.some 116), .none, (.o (.s (.bin .eql (.t 115) (.k (.int .u8 (10))))))⟩]) (.cond (.t 116) (.ops 3 [⟨0, (.some 117), .none, (.o (.s (.mv (.t 13))))⟩, ⟨1, (.some 118),
    .none, (.o (.s (.bin .add (.t 117) (.k (.int .i64 (1))))))⟩, ⟨2, (.some 13), .none, (.o (.s (.mv (.t 118))))⟩]) .skip))) (.ops 3 [⟨0, (.some 111), .none,
    (.o (.s (.mv (.t 17))))⟩, ⟨1, (.some 112), .none, (.o (.s (.bin .add (.t 111) (.k (.int .i64 (1))))))⟩, ⟨2, (.some 17), .none, (.o (.s (.mv (.t 112))))⟩])))
theorem F8l0w : F8l0.wf = true := by kernel_rfl
def F8l1 : S2 :=
  (.seq (.seq (.ops 8 [⟨0, (.some 86), .none, (.o (.s (.mv (.t 16))))⟩, ⟨1, (.some 87), .none, (.o (.s (.mv (.t 10))))⟩, ⟨2, (.some 88), .none, (.o (.s (.mv (.t 15))))⟩, ⟨3,
    (.some 89), .none, (.o (.s (.ia 2 (.t 87) (.t 88))))⟩, ⟨4, (.some 90), .none, (.o (.s (.fa 1 (.t 89))))⟩, ⟨5, (.some 91), .none, (.o (.s (.load .none (.t 90))))⟩, ⟨6,
    (.some 92), .none, (.o (.s (.lens (.t 91))))⟩, ⟨7, (.some 93), .none, (.o (.s (.bin .lss (.t 86) (.t 92))))⟩]) (.cond (.t 93) .skip (.exit 2)))
    (.seq (.block 3 (.ops 12 [⟨0, (.some 96), .none, (.o (.s (.mv (.t 14))))⟩, ⟨1, (.some 97), .none, (.o (.s (.mv (.t 96))))⟩, ⟨2, (.some 98), (.some (97, .false)),
    (.o (.s (.mv (.t 10))))⟩, ⟨3, (.some 99), (.some (97, .false)), (.o (.s (.mv (.t 15))))⟩, ⟨4, (.some 100), (.some (97, .false)), (.o (.s (.ia 2 (.t 98) (.t 99))))⟩,
    ⟨5, (.some 101), (.some (97, .false)), (.o (.s (.fa 1 (.t 100))))⟩, ⟨6, (.some 102), (.some (97, .false)), (.o (.s (.load .none (.t 101))))⟩, ⟨7, (.some 103),
    (.some (97, .false)), (.o (.s (.mv (.t 16))))⟩, ⟨8, (.some 104), (.some (97, .false)), (.o (.s (.ixs (.t 102) (.t 103))))⟩, ⟨9, (.some 105), (.some (97, .false)),
    (.o (.s (.bin .eql (.t 104) (.k (.int .u8 (10))))))⟩, ⟨10, (.some 106), .none, (.o (.s (.pick (.t 97) (.k (.bool .true)) (.t 105))))⟩, ⟨11, (.some 14), .none,
    (.o (.s (.mv (.t 106))))⟩])) (.ops 3 [⟨0, (.some 94), .none, (.o (.s (.mv (.t 16))))⟩, ⟨1, (.some 95), .none, (.o (.s (.bin .add (.t 94) (.k (.int .i64 (1))))))⟩, ⟨2,
    (.some 16), .none, (.o (.s (.mv (.t 95))))⟩])))
theorem F8l1w : F8l1.wf = true := by kernel_rfl
def F8l2 : S2 :=
  (.seq (.seq (.ops 4 [⟨0, (.some 56), .none, (.o (.s (.mv (.t 15))))⟩, ⟨1, (.some 57), .none, (.o (.s (.mv (.t 10))))⟩, ⟨2, (.some 58), .none, (.o (.s (.len (.t 57))))⟩,
    ⟨3, (.some 59), .none, (.o (.s (.bin .lss (.t 56) (.t 58))))⟩]) (.cond (.t 59) .skip (.exit 0))) (.seq (.block 1 (.seq (.seq (.ops 14 [⟨0, (.some 62), .none,
    (.o (.s (.mv (.t 10))))⟩, ⟨1, (.some 63), .none, (.o (.s (.mv (.t 15))))⟩, ⟨2, (.some 64), .none, (.o (.s (.ia 2 (.t 62) (.t 63))))⟩, ⟨3, (.some 65), .none,
    (.o (.s (.fa 0 (.t 64))))⟩, ⟨4, (.some 66), .none, (.o (.s (.load .none (.t 65))))⟩, ⟨5, (.some 67), .none, (.o (.s (.bin .geq (.t 66) (.k (.int .i64 (2))))))⟩, ⟨6,
    (.some 68), .none, (.o (.s (.mv (.t 67))))⟩, ⟨7, (.some 69), (.some (68, .true)), (.o (.s (.mv (.t 10))))⟩, ⟨8, (.some 70), (.some (68, .true)),
    (.o (.s (.mv (.t 15))))⟩, ⟨9, (.some 71), (.some (68, .true)), (.o (.s (.ia 2 (.t 69) (.t 70))))⟩, ⟨10, (.some 72), (.some (68, .true)), (.o (.s (.fa 0 (.t 71))))⟩,
    ⟨11, (.some 73), (.some (68, .true)), (.o (.s (.load .none (.t 72))))⟩, ⟨12, (.some 74), (.some (68, .true)), (.o (.s (.bin .leq (.t 73) (.k (.int .i64 (4))))))⟩, ⟨13,
    (.some 75), .none, (.o (.s (.pick (.t 68) (.t 74) (.k (.bool .false)))))⟩]) (.cond (.t 75) (.ops 3 [⟨0, (.some 76), .none, (.o (.s (.mv (.t 11))))⟩, ⟨1, (.some 77),
    .none, (.o (.s (.bin .add (.t 76) (.k (.int .i64 (1))))))⟩, ⟨2, (.some 11), .none, (.o (.s (.mv (.t 77))))⟩]) .skip)) (.seq (.seq (.ops 6 [⟨0, (.some 78), .none,
    (.o (.s (.mv (.t 10))))⟩, ⟨1, (.some 79), .none, (.o (.s (.mv (.t 15))))⟩, ⟨2, (.some 80), .none, (.o (.s (.ia 2 (.t 78) (.t 79))))⟩, ⟨3, (.some 81), .none,
    (.o (.s (.fa 0 (.t 80))))⟩, ⟨4, (.some 82), .none, (.o (.s (.load .none (.t 81))))⟩, ⟨5, (.some 83), .none, (.o (.s (.bin .eql (.t 82) (.k (.int .i64 (7))))))⟩])
    (.cond (.t 83) (.ops 3 [⟨0, (.some 84), .none, (.o (.s (.mv (.t 12))))⟩, ⟨1, (.some 85), .none, (.o (.s (.bin .add (.t 84) (.k (.int .i64 (1))))))⟩, ⟨2, (.some 12),
    .none, (.o (.s (.mv (.t 85))))⟩]) .skip)) (.seq (.ops 1 [⟨0, (.some 16), .none, (.o (.s (.mv (.k (.int .i64 (0))))))⟩]) (.block 2 (.loop F8l1)))))) (.ops 3 [⟨0,
    (.some 60), .none, (.o (.s (.mv (.t 15))))⟩, ⟨1, (.some 61), .none, (.o (.s (.bin .add (.t 60) (.k (.int .i64 (1))))))⟩, ⟨2, (.some 15), .none,
    (.o (.s (.mv (.t 61))))⟩])))
theorem F8l2w : F8l2.wf = true := by kernel_rfl
def F8s : S2 :=
  (.seq (.ops 2 [⟨0, (.some 2), .none, (.lbox 0 27 (.t 0))⟩, ⟨1, (.some 4), .none, (.o (.s (.mv (.k (.bool .false)))))⟩]) (.seq (.seq (.ops 3 [⟨0, (.some 18), .none,
    (.lload 0 (.some 3) (.t 2))⟩, ⟨1, (.some 19), .none, (.o (.call 12 [(.t 18)]))⟩, ⟨2, (.some 20), .none, (.o (.s (.un .not (.t 19))))⟩]) (.cond (.t 20)
    (.seq (.ops 2 [⟨0, (.some 21), .none, (.o (.call 9 []))⟩, ⟨1, (.some 4), .none, (.o (.s (.mv (.t 21))))⟩]) .ret) .skip)) (.seq (.ops 4 [⟨0, (.some 22), .none,
    (.lload 0 (.some 3) (.t 2))⟩, ⟨1, (.some 23), .none, (.o (.call 14 [(.t 22)]))⟩, ⟨2, (.some 5), .none, (.lalloc 1 34 [(.int .i64 (0)), (.str []), .nils])⟩, ⟨3, .none,
    .none, (.lstore 1 3 (.t 5) (.t 23))⟩]) (.seq (.ops 7 [⟨0, (.some 25), .none, (.lload 1 (.some 3) (.t 5))⟩, ⟨1, (.some 26), .none, (.o (.call 24 [(.t 25)]))⟩, ⟨2,
    (.some 24), .none, (.o (.s (.mv (.t 26))))⟩, ⟨3, (.some 27), .none, (.o (.s (.ext (.t 24) 0)))⟩, ⟨4, (.some 28), .none, (.o (.s (.ext (.t 24) 1)))⟩, ⟨5, (.some 6),
    .none, (.o (.s (.mv (.t 27))))⟩, ⟨6, (.some 7), .none, (.o (.s (.mv (.t 28))))⟩]) (.seq (.ops 10 [⟨0, (.some 30), .none, (.lload 1 (.some 3) (.t 5))⟩, ⟨1, (.some 31),
    .none, (.o (.call 22 [(.t 30)]))⟩, ⟨2, (.some 32), .none, (.o (.s (.mv (.t 1))))⟩, ⟨3, (.some 33), .none, (.o (.call 17 [(.t 32)]))⟩, ⟨4, (.some 34), .none,
    (.o (.call 13 [(.t 31), (.t 33)]))⟩, ⟨5, (.some 29), .none, (.o (.s (.mv (.t 34))))⟩, ⟨6, (.some 35), .none, (.o (.s (.ext (.t 29) 0)))⟩, ⟨7, (.some 36), .none,
    (.o (.s (.ext (.t 29) 1)))⟩, ⟨8, (.some 8), .none, (.o (.s (.mv (.t 35))))⟩, ⟨9, (.some 9), .none, (.o (.s (.mv (.t 36))))⟩]) (.seq (.seq (.ops 6 [⟨0, (.some 37),
    .none, (.o (.call 9 []))⟩, ⟨1, (.some 38), .none, (.o (.s (.un .not (.t 37))))⟩, ⟨2, (.some 39), .none, (.o (.s (.mv (.t 38))))⟩, ⟨3, (.some 40), (.some (39, .false)),
    (.o (.s (.mv (.t 9))))⟩, ⟨4, (.some 41), (.some (39, .false)), (.o (.s (.bin .neq (.t 40) (.k (.int .i64 (0))))))⟩, ⟨5, (.some 42), .none, (.o (.s (.pick (.t 39)
    (.k (.bool .true)) (.t 41))))⟩]) (.cond (.t 42) (.seq (.ops 1 [⟨0, (.some 4), .none, (.o (.s (.mv (.k (.bool .false)))))⟩]) .ret) .skip)) (.seq (.seq (.ops 8 [⟨0,
    (.some 43), .none, (.o (.s (.mv (.t 7))))⟩, ⟨1, (.some 44), .none, (.o (.s (.mv (.t 43))))⟩, ⟨2, (.some 45), (.some (44, .true)), (.o (.s (.mv (.t 6))))⟩, ⟨3,
    (.some 46), (.some (44, .true)), (.o (.call 10 [(.t 45)]))⟩, ⟨4, (.some 47), (.some (44, .true)), (.o (.s (.mv (.t 1))))⟩, ⟨5, (.some 48), (.some (44, .true)),
    (.o (.call 17 [(.t 47)]))⟩, ⟨6, (.some 49), (.some (44, .true)), (.o (.s (.bin .leq (.t 46) (.t 48))))⟩, ⟨7, (.some 50), .none, (.o (.s (.pick (.t 44) (.t 49)
    (.k (.bool .false)))))⟩]) (.cond (.t 50) (.seq (.ops 4 [⟨0, (.some 51), .none, (.o (.s (.mv (.t 8))))⟩, ⟨1, (.some 52), .none, (.o (.s (.mv (.t 6))))⟩, ⟨2, (.some 53),
    .none, (.o (.s (.bin .eql (.t 51) (.t 52))))⟩, ⟨3, (.some 4), .none, (.o (.s (.mv (.t 53))))⟩]) .ret) .skip)) (.seq (.ops 3 [⟨0, (.some 54), .none, (.lload 1 (.some 3)
    (.t 5))⟩, ⟨1, (.some 55), .none, (.o (.call 18 [(.t 54)]))⟩, ⟨2, (.some 10), .none, (.o (.s (.mv (.t 55))))⟩]) (.seq (.ops 3 [⟨0, (.some 11), .none,
    (.o (.s (.mv (.k (.int .i64 (0))))))⟩, ⟨1, (.some 12), .none, (.o (.s (.mv (.k (.int .i64 (0))))))⟩, ⟨2, (.some 13), .none, (.o (.s (.mv (.k (.int .i64 (0))))))⟩])
    (.seq (.ops 1 [⟨0, (.some 14), .none, (.o (.s (.mv (.k (.bool .false)))))⟩]) (.seq (.seq (.ops 1 [⟨0, (.some 15), .none, (.o (.s (.mv (.k (.int .i64 (0))))))⟩])
    (.block 0 (.loop F8l2))) (.seq (.seq (.ops 1 [⟨0, (.some 17), .none, (.o (.s (.mv (.k (.int .i64 (0))))))⟩]) (.block 4 (.loop F8l0))) (.seq (.ops 16 [⟨0, (.some 119),
    .none, (.o (.s (.mv (.t 14))))⟩, ⟨1, (.some 120), .none, (.o (.s (.mv (.t 119))))⟩, ⟨2, (.some 121), (.some (120, .false)), (.o (.s (.mv (.t 13))))⟩, ⟨3, (.some 122),
    (.some (120, .false)), (.o (.s (.mv (.t 11))))⟩, ⟨4, (.some 123), (.some (120, .false)), (.o (.s (.bin .leq (.t 121) (.t 122))))⟩, ⟨5, (.some 124), (.some (120,
    .false)), (.o (.s (.mv (.t 123))))⟩, ⟨6, (.some 125), (.some (124, .true)), (.o (.s (.mv (.t 12))))⟩, ⟨7, (.some 126), (.some (124, .true)),
    (.o (.s (.bin .gtr (.t 125) (.k (.int .i64 (0))))))⟩, ⟨8, (.some 127), (.some (124, .true)), (.o (.s (.mv (.t 126))))⟩, ⟨9, (.some 128), (.some (127, .false)),
    (.o (.s (.mv (.t 13))))⟩, ⟨10, (.some 129), (.some (127, .false)), (.o (.s (.mv (.t 11))))⟩, ⟨11, (.some 130), (.some (127, .false)), (.o (.s (.bin .eql (.t 128)
    (.t 129))))⟩, ⟨12, (.some 131), (.some (124, .true)), (.o (.s (.pick (.t 127) (.k (.bool .true)) (.t 130))))⟩, ⟨13, (.some 132), (.some (120, .false)),
    (.o (.s (.pick (.t 124) (.t 131) (.k (.bool .false)))))⟩, ⟨14, (.some 133), .none, (.o (.s (.pick (.t 120) (.k (.bool .true)) (.t 132))))⟩, ⟨15, (.some 4), .none,
    (.o (.s (.mv (.t 133))))⟩]) .ret)))))))))))))
noncomputable def F8b : Go.Code := Go.Proofs.Try.f8.body.getD .skip
theorem F8c : comp C [] F8b = some F8s.er := by kernel_rfl
theorem F8w : F8s.wf = true := by kernel_rfl
theorem F8d : Go.Proofs.Try.f8.body = some F8b := by kernel_rfl
@[simp] def F8q : List RV2 := [(.o (.tmp 4))]
theorem F8r : compRVs C Go.Proofs.Try.f8.results.toList = some (F8q.map RV2.er) := by kernel_rfl
theorem F8e : Enters Go.Proofs.Try.prog 8 := enters_of Go.Proofs.Try.func8 (by kernel_rfl) (by kernel_rfl)

/-- scarf/scarflaw08.known -- 0: box t1 -/
def F9s : S2 :=
  (.seq (.ops 1 [⟨0, (.some 0), .none, (.o (.s (.mv (.k (.bool .false)))))⟩]) (.seq (.ops 14 [⟨0, (.some 6), .none, (.o (.call 25 [(.k (.str [102, 40]))]))⟩, ⟨1, (.some 7),
    .none, (.o (.call 26 []))⟩, ⟨2, (.some 8), .none, (.o (.call 25 [(.k (.str [97, 97, 97, 44]))]))⟩, ⟨3, (.some 9), .none, (.o (.call 27 []))⟩, ⟨4, (.some 10), .none,
    (.o (.call 25 [(.k (.str [98, 98, 98]))]))⟩, ⟨5, (.some 11), .none, (.lbsl 1 34 3 4 [(.int .i64 (0)), (.str []), .nils] [(0, (.t 7)), (1, (.t 8)), (2, (.t 9)), (3,
    (.t 10))] .false)⟩, ⟨6, (.some 12), .none, (.o (.call 20 [(.t 11)]))⟩, ⟨7, (.some 13), .none, (.o (.call 23 [(.t 12)]))⟩, ⟨8, (.some 14), .none,
    (.o (.call 25 [(.k (.str [41]))]))⟩, ⟨9, (.some 15), .none, (.lbsl 1 34 3 3 [(.int .i64 (0)), (.str []), .nils] [(0, (.t 6)), (1, (.t 13)), (2, (.t 14))] .false)⟩,
    ⟨10, (.some 16), .none, (.o (.call 20 [(.t 15)]))⟩, ⟨11, (.some 17), .none, (.o (.call 22 [(.t 16)]))⟩, ⟨12, (.some 1), .none, (.lalloc 0 34 [(.int .i64 (0)),
    (.str []), .nils])⟩, ⟨13, .none, .none, (.lstore 0 3 (.t 1) (.t 17))⟩]) (.seq (.ops 7 [⟨0, (.some 19), .none, (.lload 0 (.some 3) (.t 1))⟩, ⟨1, (.some 20), .none,
    (.o (.call 13 [(.t 19), (.k (.int .i64 (11)))]))⟩, ⟨2, (.some 18), .none, (.o (.s (.mv (.t 20))))⟩, ⟨3, (.some 21), .none, (.o (.s (.ext (.t 18) 0)))⟩, ⟨4, (.some 22),
    .none, (.o (.s (.ext (.t 18) 1)))⟩, ⟨5, (.some 2), .none, (.o (.s (.mv (.t 21))))⟩, ⟨6, (.some 3), .none, (.o (.s (.mv (.t 22))))⟩]) (.seq (.ops 7 [⟨0, (.some 24),
    .none, (.lload 0 (.some 3) (.t 1))⟩, ⟨1, (.some 25), .none, (.o (.call 13 [(.t 24), (.k (.int .i64 (10)))]))⟩, ⟨2, (.some 23), .none, (.o (.s (.mv (.t 25))))⟩, ⟨3,
    (.some 26), .none, (.o (.s (.ext (.t 23) 0)))⟩, ⟨4, (.some 27), .none, (.o (.s (.ext (.t 23) 1)))⟩, ⟨5, (.some 4), .none, (.o (.s (.mv (.t 26))))⟩, ⟨6, (.some 5),
    .none, (.o (.s (.mv (.t 27))))⟩]) (.seq (.ops 15 [⟨0, (.some 28), .none, (.o (.s (.mv (.t 3))))⟩, ⟨1, (.some 29), .none, (.o (.s (.bin .eql (.t 28)
    (.k (.int .i64 (0))))))⟩, ⟨2, (.some 30), .none, (.o (.s (.mv (.t 29))))⟩, ⟨3, (.some 31), (.some (30, .true)), (.o (.s (.mv (.t 2))))⟩, ⟨4, (.some 32), (.some (30,
    .true)), (.o (.s (.bin .eql (.t 31) (.k (.str [102, 40, 97, 97, 97, 44, 32, 98, 98, 98, 41])))))⟩, ⟨5, (.some 33), .none, (.o (.s (.pick (.t 30) (.t 32)
    (.k (.bool .false)))))⟩, ⟨6, (.some 34), .none, (.o (.s (.mv (.t 33))))⟩, ⟨7, (.some 35), (.some (34, .true)), (.o (.s (.mv (.t 5))))⟩, ⟨8, (.some 36), (.some (34,
    .true)), (.o (.s (.bin .eql (.t 35) (.k (.int .i64 (0))))))⟩, ⟨9, (.some 37), .none, (.o (.s (.pick (.t 34) (.t 36) (.k (.bool .false)))))⟩, ⟨10, (.some 38), .none,
    (.o (.s (.mv (.t 37))))⟩, ⟨11, (.some 39), (.some (38, .true)), (.o (.s (.mv (.t 4))))⟩, ⟨12, (.some 40), (.some (38, .true)), (.o (.s (.bin .eql (.t 39)
    (.k (.str [102, 40, 10, 9, 97, 97, 97, 44, 10, 9, 98, 98, 98, 41])))))⟩, ⟨13, (.some 41), .none, (.o (.s (.pick (.t 38) (.t 40) (.k (.bool .false)))))⟩, ⟨14,
    (.some 0), .none, (.o (.s (.mv (.t 41))))⟩]) .ret)))))
noncomputable def F9b : Go.Code := Go.Proofs.Try.f9.body.getD .skip
theorem F9c : comp C [] F9b = some F9s.er := by kernel_rfl
theorem F9w : F9s.wf = true := by kernel_rfl
theorem F9d : Go.Proofs.Try.f9.body = some F9b := by kernel_rfl
@[simp] def F9q : List RV2 := [(.o (.tmp 0))]
theorem F9r : compRVs C Go.Proofs.Try.f9.results.toList = some (F9q.map RV2.er) := by kernel_rfl
theorem F9e : Enters Go.Proofs.Try.prog 9 := enters_of Go.Proofs.Try.func9 (by kernel_rfl) (by kernel_rfl)

/-- scarf/layout.Width --  -/
def F10l0 : S2 :=
  (.seq (.ops 1 [⟨0, (.some 10), .none, (.o (.s (.bin .lss (.t 9) (.t 8))))⟩]) (.seq (.cond (.t 10) .skip (.exit 0)) (.seq (.block 1 (.seq (.ops 3 [⟨0, (.some 11), .none,
    (.o (.s (.ia 1 (.t 7) (.t 9))))⟩, ⟨1, (.some 12), .none, (.o (.s (.load .none (.t 11))))⟩, ⟨2, (.some 5), .none, (.o (.s (.mv (.t 12))))⟩]) (.seq (.ops 3 [⟨0,
    (.some 13), .none, (.o (.s (.mv (.t 5))))⟩, ⟨1, (.some 14), .none, (.o (.s (.bin .and (.t 13) (.k (.int .u8 (192))))))⟩, ⟨2, (.some 15), .none,
    (.o (.s (.bin .neq (.t 14) (.k (.int .u8 (128))))))⟩]) (.cond (.t 15) (.ops 3 [⟨0, (.some 16), .none, (.o (.s (.mv (.t 3))))⟩, ⟨1, (.some 17), .none,
    (.o (.s (.bin .add (.t 16) (.k (.int .i64 (1))))))⟩, ⟨2, (.some 3), .none, (.o (.s (.mv (.t 17))))⟩]) .skip)))) (.ops 2 [⟨0, (.some 18), .none,
    (.o (.s (.bin .add (.t 9) (.k (.int .i64 (1))))))⟩, ⟨1, (.some 9), .none, (.o (.s (.mv (.t 18))))⟩]))))
theorem F10l0w : F10l0.wf = true := by kernel_rfl
def F10s : S2 :=
  (.seq (.ops 1 [⟨0, (.some 2), .none, (.o (.s (.mv (.k (.int .i64 (0))))))⟩]) (.seq (.ops 1 [⟨0, (.some 3), .none, (.o (.s (.mv (.k (.int .i64 (0))))))⟩])
    (.seq (.seq (.ops 4 [⟨0, (.some 6), .none, (.o (.s (.mv (.t 0))))⟩, ⟨1, (.some 7), .none, (.o (.s (.s2b (.t 6))))⟩, ⟨2, (.some 8), .none, (.o (.s (.len (.t 7))))⟩, ⟨3,
    (.some 9), .none, (.o (.s (.mv (.k (.int .i64 (0))))))⟩]) (.block 0 (.loop F10l0))) (.seq (.ops 2 [⟨0, (.some 19), .none, (.o (.s (.mv (.t 3))))⟩, ⟨1, (.some 2),
    .none, (.o (.s (.mv (.t 19))))⟩]) .ret))))
noncomputable def F10b : Go.Code := Go.Proofs.Try.f10.body.getD .skip
theorem F10c : comp C [] F10b = some F10s.er := by kernel_rfl
theorem F10w : F10s.wf = true := by kernel_rfl
theorem F10d : Go.Proofs.Try.f10.body = some F10b := by kernel_rfl
@[simp] def F10q : List RV2 := [(.o (.tmp 2))]
theorem F10r : compRVs C Go.Proofs.Try.f10.results.toList = some (F10q.map RV2.er) := by kernel_rfl
theorem F10e : Enters Go.Proofs.Try.prog 10 := enters_of Go.Proofs.Try.func10 (by kernel_rfl) (by kernel_rfl)

/-- scarf/scarfref08.Width --  -/
def F11l0 : S2 :=
  (.seq (.seq (.ops 4 [⟨0, (.some 5), .none, (.o (.s (.mv (.t 4))))⟩, ⟨1, (.some 6), .none, (.o (.s (.mv (.t 0))))⟩, ⟨2, (.some 7), .none, (.o (.s (.lens (.t 6))))⟩, ⟨3,
    (.some 8), .none, (.o (.s (.bin .lss (.t 5) (.t 7))))⟩]) (.cond (.t 8) .skip (.exit 0))) (.seq (.block 1 (.seq (.ops 10 [⟨0, (.some 11), .none,
    (.o (.s (.mv (.t 0))))⟩, ⟨1, (.some 12), .none, (.o (.s (.mv (.t 4))))⟩, ⟨2, (.some 13), .none, (.o (.s (.ixs (.t 11) (.t 12))))⟩, ⟨3, (.some 14), .none,
    (.o (.s (.bin .lss (.t 13) (.k (.int .u8 (128))))))⟩, ⟨4, (.some 15), .none, (.o (.s (.mv (.t 14))))⟩, ⟨5, (.some 16), (.some (15, .false)), (.o (.s (.mv (.t 0))))⟩,
    ⟨6, (.some 17), (.some (15, .false)), (.o (.s (.mv (.t 4))))⟩, ⟨7, (.some 18), (.some (15, .false)), (.o (.s (.ixs (.t 16) (.t 17))))⟩, ⟨8, (.some 19), (.some (15,
    .false)), (.o (.s (.bin .gtr (.t 18) (.k (.int .u8 (191))))))⟩, ⟨9, (.some 20), .none, (.o (.s (.pick (.t 15) (.k (.bool .true)) (.t 19))))⟩]) (.cond (.t 20)
    (.ops 3 [⟨0, (.some 21), .none, (.o (.s (.mv (.t 3))))⟩, ⟨1, (.some 22), .none, (.o (.s (.bin .add (.t 21) (.k (.int .i64 (1))))))⟩, ⟨2, (.some 3), .none,
    (.o (.s (.mv (.t 22))))⟩]) .skip))) (.ops 3 [⟨0, (.some 9), .none, (.o (.s (.mv (.t 4))))⟩, ⟨1, (.some 10), .none, (.o (.s (.bin .add (.t 9) (.k (.int .i64 (1))))))⟩,
    ⟨2, (.some 4), .none, (.o (.s (.mv (.t 10))))⟩])))
theorem F11l0w : F11l0.wf = true := by kernel_rfl
def F11s : S2 :=
  (.seq (.ops 1 [⟨0, (.some 2), .none, (.o (.s (.mv (.k (.int .i64 (0))))))⟩]) (.seq (.ops 1 [⟨0, (.some 3), .none, (.o (.s (.mv (.k (.int .i64 (0))))))⟩])
    (.seq (.seq (.ops 1 [⟨0, (.some 4), .none, (.o (.s (.mv (.k (.int .i64 (0))))))⟩]) (.block 0 (.loop F11l0))) (.seq (.ops 2 [⟨0, (.some 23), .none,
    (.o (.s (.mv (.t 3))))⟩, ⟨1, (.some 2), .none, (.o (.s (.mv (.t 23))))⟩]) .ret))))
noncomputable def F11b : Go.Code := Go.Proofs.Try.f11.body.getD .skip
theorem F11c : comp C [] F11b = some F11s.er := by kernel_rfl
theorem F11w : F11s.wf = true := by kernel_rfl
theorem F11d : Go.Proofs.Try.f11.body = some F11b := by kernel_rfl
@[simp] def F11q : List RV2 := [(.o (.tmp 2))]
theorem F11r : compRVs C Go.Proofs.Try.f11.results.toList = some (F11q.map RV2.er) := by kernel_rfl
theorem F11e : Enters Go.Proofs.Try.prog 11 := enters_of Go.Proofs.Try.func11 (by kernel_rfl) (by kernel_rfl)

/-- scarf/scarflaw07.Few -- 0: box t1 -/
def F12l0 : S2 :=
  (.seq (.seq (.ops 4 [⟨0, (.some 8), .none, (.o (.s (.mv (.t 5))))⟩, ⟨1, (.some 9), .none, (.o (.s (.mv (.t 3))))⟩, ⟨2, (.some 10), .none, (.o (.s (.len (.t 9))))⟩, ⟨3,
    (.some 11), .none, (.o (.s (.bin .lss (.t 8) (.t 10))))⟩]) (.cond (.t 11) .skip (.exit 0))) (.seq (.block 1 (.seq (.ops 10 [⟨0, (.some 14), .none,
    (.o (.s (.mv (.t 4))))⟩, ⟨1, (.some 15), .none, (.o (.s (.mv (.t 3))))⟩, ⟨2, (.some 16), .none, (.o (.s (.mv (.t 5))))⟩, ⟨3, (.some 17), .none, (.o (.s (.ia 2 (.t 15)
    (.t 16))))⟩, ⟨4, (.some 18), .none, (.o (.s (.fa 1 (.t 17))))⟩, ⟨5, (.some 19), .none, (.o (.s (.load .none (.t 18))))⟩, ⟨6, (.some 20), .none,
    (.o (.s (.lens (.t 19))))⟩, ⟨7, (.some 21), .none, (.o (.s (.mn (.t 20) (.k (.int .i64 (10000))))))⟩, ⟨8, (.some 22), .none, (.o (.s (.bin .add (.t 14) (.t 21))))⟩,
    ⟨9, (.some 4), .none, (.o (.s (.mv (.t 22))))⟩]) (.seq (.ops 2 [⟨0, (.some 23), .none, (.o (.s (.mv (.t 4))))⟩, ⟨1, (.some 24), .none, (.o (.s (.bin .gtr (.t 23)
    (.k (.int .i64 (20000))))))⟩]) (.cond (.t 24) (.seq (.ops 1 [⟨0, (.some 2), .none, (.o (.s (.mv (.k (.bool .false)))))⟩]) .ret) .skip)))) (.ops 3 [⟨0, (.some 12),
    .none, (.o (.s (.mv (.t 5))))⟩, ⟨1, (.some 13), .none, (.o (.s (.bin .add (.t 12) (.k (.int .i64 (1))))))⟩, ⟨2, (.some 5), .none, (.o (.s (.mv (.t 13))))⟩])))
theorem F12l0w : F12l0.wf = true := by kernel_rfl
def F12s : S2 :=
  (.seq (.ops 2 [⟨0, (.some 1), .none, (.lbox 0 27 (.t 0))⟩, ⟨1, (.some 2), .none, (.o (.s (.mv (.k (.bool .false)))))⟩]) (.seq (.ops 3 [⟨0, (.some 6), .none,
    (.lload 0 (.some 3) (.t 1))⟩, ⟨1, (.some 7), .none, (.o (.call 16 [(.t 6), (.k (.int .i64 (1000)))]))⟩, ⟨2, (.some 3), .none, (.o (.s (.mv (.t 7))))⟩])
    (.seq (.ops 1 [⟨0, (.some 4), .none, (.o (.s (.mv (.k (.int .i64 (0))))))⟩]) (.seq (.seq (.ops 1 [⟨0, (.some 5), .none, (.o (.s (.mv (.k (.int .i64 (0))))))⟩])
    (.block 0 (.loop F12l0))) (.seq (.ops 4 [⟨0, (.some 25), .none, (.lload 0 (.some 3) (.t 1))⟩, ⟨1, (.some 26), .none, (.o (.call 28 [(.t 25),
    (.k (.int .i64 (400)))]))⟩, ⟨2, (.some 27), .none, (.o (.s (.bin .lss (.t 26) (.k (.int .i64 (400))))))⟩, ⟨3, (.some 2), .none, (.o (.s (.mv (.t 27))))⟩]) .ret)))))
noncomputable def F12b : Go.Code := Go.Proofs.Try.f12.body.getD .skip
theorem F12c : comp C [] F12b = some F12s.er := by kernel_rfl
theorem F12w : F12s.wf = true := by kernel_rfl
theorem F12d : Go.Proofs.Try.f12.body = some F12b := by kernel_rfl
@[simp] def F12q : List RV2 := [(.o (.tmp 2))]
theorem F12r : compRVs C Go.Proofs.Try.f12.results.toList = some (F12q.map RV2.er) := by kernel_rfl
theorem F12e : Enters Go.Proofs.Try.prog 12 := enters_of Go.Proofs.Try.func12 (by kernel_rfl) (by kernel_rfl)

/-- scarf/layout.Of -- 0: box t2; 1: box t14; 2: stack t12 t33 t41 t42 t85 t120 t123 t124 t127 -/
def F13l0 : S2 :=
  (.seq (.ops 1 [⟨0, (.some 37), .none, (.o (.s (.bin .lss (.t 36) (.t 35))))⟩]) (.seq (.cond (.t 37) .skip (.exit 0)) (.seq (.block 1 (.seq (.ops 6 [⟨0, (.some 38), .none,
    (.o (.s (.mv (.t 36))))⟩, ⟨1, (.some 39), .none, (.o (.s (.ia 2 (.t 34) (.t 36))))⟩, ⟨2, (.some 40), .none, (.o (.s (.load (.some 2) (.t 39))))⟩, ⟨3, (.some 14),
    .none, (.lalloc 1 45 [(.int .i64 (0)), (.str [])])⟩, ⟨4, (.some 13), .none, (.o (.s (.mv (.t 38))))⟩, ⟨5, .none, .none, (.lstore 1 2 (.t 14) (.t 40))⟩])
    (.seq (.ops 7 [⟨0, (.some 41), .none, (.o (.s (.mv (.t 12))))⟩, ⟨1, (.some 42), .none, (.o (.s (.mv (.t 12))))⟩, ⟨2, (.some 43), .none, (.o (.s (.len (.t 42))))⟩, ⟨3,
    (.some 44), .none, (.o (.s (.bin .sub (.t 43) (.k (.int .i64 (1))))))⟩, ⟨4, (.some 45), .none, (.lia 2 1 (.t 41) (.t 44))⟩, ⟨5, (.some 46), .none,
    (.lload 2 .none (.t 45))⟩, ⟨6, (.some 15), .none, (.o (.s (.mv (.t 46))))⟩]) (.seq (.ops 2 [⟨0, (.some 47), .none, (.o (.s (.fa 0 (.t 14))))⟩, ⟨1, (.some 48), .none,
    (.lload 1 .none (.t 47))⟩]) (.block 2 (.seq (.ops 2 [⟨0, (.some 50), .none, (.o (.s (.bin .eql (.t 48) (.k (.int .i64 (1))))))⟩, ⟨1, (.some 49), .none,
    (.o (.s (.mv (.t 50))))⟩]) (.cond (.t 49) (.ops 3 [⟨0, (.some 51), .none, (.o (.s (.fa 1 (.t 14))))⟩, ⟨1, (.some 52), .none, (.lload 1 .none (.t 51))⟩, ⟨2, (.some 53),
    .none, (.o (.call 31 [(.t 11), (.t 52)]))⟩]) (.seq (.ops 2 [⟨0, (.some 55), .none, (.o (.s (.bin .eql (.t 48) (.k (.int .i64 (2))))))⟩, ⟨1, (.some 54), .none,
    (.o (.s (.mv (.t 55))))⟩]) (.cond (.t 54) (.seq (.ops 1 [⟨0, (.some 56), .none, (.o (.s (.mv (.t 15))))⟩]) (.cond (.t 56) (.ops 1 [⟨0, (.some 57), .none,
    (.o (.call 31 [(.t 11), (.k (.str [32]))]))⟩]) (.ops 1 [⟨0, (.some 58), .none, (.o (.call 32 [(.t 11)]))⟩]))) (.seq (.ops 2 [⟨0, (.some 60), .none,
    (.o (.s (.bin .eql (.t 48) (.k (.int .i64 (3))))))⟩, ⟨1, (.some 59), .none, (.o (.s (.mv (.t 60))))⟩]) (.cond (.t 59) (.seq (.ops 2 [⟨0, (.some 61), .none,
    (.o (.s (.mv (.t 15))))⟩, ⟨1, (.some 62), .none, (.o (.s (.un .not (.t 61))))⟩]) (.cond (.t 62) (.ops 1 [⟨0, (.some 63), .none, (.o (.call 32 [(.t 11)]))⟩]) .skip))
    (.seq (.ops 2 [⟨0, (.some 65), .none, (.o (.s (.bin .eql (.t 48) (.k (.int .i64 (4))))))⟩, ⟨1, (.some 64), .none, (.o (.s (.mv (.t 65))))⟩]) (.cond (.t 64)
    (.ops 1 [⟨0, (.some 66), .none, (.o (.call 32 [(.t 11)]))⟩]) (.seq (.ops 2 [⟨0, (.some 68), .none, (.o (.s (.bin .eql (.t 48) (.k (.int .i64 (5))))))⟩, ⟨1, (.some 67),
    .none, (.o (.s (.mv (.t 68))))⟩]) (.cond (.t 67) (.ops 5 [⟨0, (.some 69), .none, (.o (.s (.fa 3 (.t 11))))⟩, ⟨1, (.some 70), .none, (.o (.s (.load .none (.t 69))))⟩,
    ⟨2, (.some 71), .none, (.o (.s (.bin .add (.t 70) (.k (.int .i64 (1))))))⟩, ⟨3, (.some 72), .none, (.o (.s (.fa 3 (.t 11))))⟩, ⟨4, .none, .none,
    (.o (.s (.store 1 (.t 72) (.t 71))))⟩]) (.seq (.ops 2 [⟨0, (.some 74), .none, (.o (.s (.bin .eql (.t 48) (.k (.int .i64 (6))))))⟩, ⟨1, (.some 73), .none,
    (.o (.s (.mv (.t 74))))⟩]) (.cond (.t 73) (.ops 5 [⟨0, (.some 75), .none, (.o (.s (.fa 3 (.t 11))))⟩, ⟨1, (.some 76), .none, (.o (.s (.load .none (.t 75))))⟩, ⟨2,
    (.some 77), .none, (.o (.s (.bin .sub (.t 76) (.k (.int .i64 (1))))))⟩, ⟨3, (.some 78), .none, (.o (.s (.fa 3 (.t 11))))⟩, ⟨4, .none, .none, (.o (.s (.store 1 (.t 78)
    (.t 77))))⟩]) (.seq (.ops 2 [⟨0, (.some 80), .none, (.o (.s (.bin .eql (.t 48) (.k (.int .i64 (7))))))⟩, ⟨1, (.some 79), .none, (.o (.s (.mv (.t 80))))⟩])
    (.cond (.t 79) (.seq (.ops 5 [⟨0, (.some 81), .none, (.o (.s (.mv (.t 10))))⟩, ⟨1, (.some 82), .none, (.o (.s (.mv (.t 13))))⟩, ⟨2, (.some 83), .none,
    (.o (.s (.ia 1 (.t 81) (.t 82))))⟩, ⟨3, (.some 84), .none, (.o (.s (.load .none (.t 83))))⟩, ⟨4, (.some 16), .none, (.o (.s (.mv (.t 84))))⟩]) (.dops 37 [(⟨0,
    (.some 85), .none, (.o (.s (.mv (.t 12))))⟩, (.mk 0 [])), (⟨1, (.some 86), .none, (.o (.s (.mv (.t 15))))⟩, (.mk 0 [])), (⟨2, (.some 87), .none,
    (.o (.s (.mv (.t 86))))⟩, (.mk 0 [])), (⟨3, (.some 88), (.some (87, .false)), (.o (.s (.mv (.t 8))))⟩, (.mk 0 [])), (⟨4, (.some 89), (.some (87, .false)),
    (.o (.s (.mv (.t 16))))⟩, (.mk 0 [])), (⟨7, (.some 92), (.some (87, .false)), (.o (.s (.mv (.t 8))))⟩, (.mk 0 [])), (⟨8, (.some 93), (.some (87, .false)),
    (.o (.s (.mv (.t 13))))⟩, (.mk 0 [])), (⟨5, (.some 90), (.some (87, .false)), (.o (.s (.ia 1 (.t 88) (.t 89))))⟩, (.mk 1 [])), (⟨6, (.some 91), (.some (87, .false)),
    (.o (.s (.load .none (.t 90))))⟩, (.mk 1 [])), (⟨9, (.some 94), (.some (87, .false)), (.o (.s (.ia 1 (.t 92) (.t 93))))⟩, (.mk 1 [])), (⟨10, (.some 95), (.some (87,
    .false)), (.o (.s (.load .none (.t 94))))⟩, (.mk 1 [])), (⟨11, (.some 96), (.some (87, .false)), (.o (.s (.bin .eql (.t 91) (.t 95))))⟩, (.mk 0 [])), (⟨12, (.some 97),
    (.some (87, .false)), (.o (.s (.mv (.t 96))))⟩, (.mk 0 [])), (⟨13, (.some 98), (.some (97, .true)), (.o (.s (.fa 2 (.t 11))))⟩, (.mk 0 [])), (⟨15, (.some 100),
    (.some (97, .true)), (.o (.s (.mv (.t 7))))⟩, (.mk 0 [])), (⟨16, (.some 101), (.some (97, .true)), (.o (.s (.mv (.t 16))))⟩, (.mk 0 [])), (⟨20, (.some 105),
    (.some (97, .true)), (.o (.s (.mv (.t 7))))⟩, (.mk 0 [])), (⟨21, (.some 106), (.some (97, .true)), (.o (.s (.mv (.t 13))))⟩, (.mk 0 [])), (⟨25, (.some 110),
    (.some (97, .true)), (.o (.s (.mv (.t 9))))⟩, (.mk 0 [])), (⟨26, (.some 111), (.some (97, .true)), (.o (.s (.mv (.t 16))))⟩, (.mk 0 [])), (⟨30, (.some 115),
    (.some (97, .true)), (.o (.s (.mv (.t 1))))⟩, (.mk 0 [])), (⟨14, (.some 99), (.some (97, .true)), (.o (.s (.load .none (.t 98))))⟩, (.mk 1 [])), (⟨17, (.some 102),
    (.some (97, .true)), (.o (.s (.ia 1 (.t 100) (.t 101))))⟩, (.mk 1 [])), (⟨18, (.some 103), (.some (97, .true)), (.o (.s (.load .none (.t 102))))⟩, (.mk 1 [])), (⟨19,
    (.some 104), (.some (97, .true)), (.o (.s (.bin .add (.t 99) (.t 103))))⟩, (.mk 0 [])), (⟨22, (.some 107), (.some (97, .true)), (.o (.s (.ia 1 (.t 105) (.t 106))))⟩,
    (.mk 1 [])), (⟨23, (.some 108), (.some (97, .true)), (.o (.s (.load .none (.t 107))))⟩, (.mk 1 [])), (⟨24, (.some 109), (.some (97, .true)),
    (.o (.s (.bin .sub (.t 104) (.t 108))))⟩, (.mk 0 [])), (⟨27, (.some 112), (.some (97, .true)), (.o (.s (.ia 1 (.t 110) (.t 111))))⟩, (.mk 1 [])), (⟨28, (.some 113),
    (.some (97, .true)), (.o (.s (.load .none (.t 112))))⟩, (.mk 1 [])), (⟨29, (.some 114), (.some (97, .true)), (.o (.s (.bin .add (.t 109) (.t 113))))⟩, (.mk 0 [])),
    (⟨31, (.some 116), (.some (97, .true)), (.o (.s (.bin .leq (.t 114) (.t 115))))⟩, (.mk 0 [])), (⟨32, (.some 117), (.some (87, .false)), (.o (.s (.pick (.t 97) (.t 116)
    (.k (.bool .false)))))⟩, (.mk 0 [])), (⟨33, (.some 118), .none, (.o (.s (.pick (.t 87) (.k (.bool .true)) (.t 117))))⟩, (.mk 0 [])), (⟨34, (.some 119), .none,
    (.lbsl 3 4 1 1 [(.bool .false)] [(0, (.t 118))] .false)⟩, (.mk 0 [34])), (⟨35, (.some 120), .none, (.lgrow 2 4 1 1 (.t 85) (.t 119))⟩, (.mk 2 [35])), (⟨36, (.some 12),
    .none, (.o (.s (.mv (.t 120))))⟩, (.mk 0 []))])) (.seq (.ops 2 [⟨0, (.some 122), .none, (.o (.s (.bin .eql (.t 48) (.k (.int .i64 (8))))))⟩, ⟨1, (.some 121), .none,
    (.o (.s (.mv (.t 122))))⟩]) (.cond (.t 121) (.ops 6 [⟨0, (.some 123), .none, (.o (.s (.mv (.t 12))))⟩, ⟨1, (.some 124), .none, (.o (.s (.mv (.t 12))))⟩, ⟨2,
    (.some 125), .none, (.o (.s (.len (.t 124))))⟩, ⟨3, (.some 126), .none, (.o (.s (.bin .sub (.t 125) (.k (.int .i64 (1))))))⟩, ⟨4, (.some 127), .none,
    (.lsub 2 1 (.t 123) .none (.some (.t 126)))⟩, ⟨5, (.some 12), .none, (.o (.s (.mv (.t 127))))⟩]) .skip))))))))))))))))))))) (.ops 2 [⟨0, (.some 128), .none,
    (.o (.s (.bin .add (.t 36) (.k (.int .i64 (1))))))⟩, ⟨1, (.some 36), .none, (.o (.s (.mv (.t 128))))⟩]))))
theorem F13l0w : F13l0.wf = true := by kernel_rfl
def F13s : S2 :=
  (.seq (.ops 3 [⟨0, (.some 2), .none, (.lbox 0 34 (.t 0))⟩, ⟨1, (.some 4), .none, (.o (.s (.mv (.k (.str [])))))⟩, ⟨2, (.some 5), .none,
    (.o (.s (.mv (.k (.int .i64 (0))))))⟩]) (.seq (.seq (.ops 6 [⟨0, (.some 17), .none, (.o (.s (.mv (.t 1))))⟩, ⟨1, (.some 18), .none, (.o (.s (.bin .lss (.t 17)
    (.k (.int .i64 (1))))))⟩, ⟨2, (.some 19), .none, (.o (.s (.mv (.t 18))))⟩, ⟨3, (.some 20), (.some (19, .false)), (.o (.s (.mv (.t 1))))⟩, ⟨4, (.some 21), (.some (19,
    .false)), (.o (.s (.bin .gtr (.t 20) (.k (.int .i64 (65535))))))⟩, ⟨5, (.some 22), .none, (.o (.s (.pick (.t 19) (.k (.bool .true)) (.t 21))))⟩]) (.cond (.t 22)
    (.seq (.ops 2 [⟨0, (.some 4), .none, (.o (.s (.mv (.k (.str [])))))⟩, ⟨1, (.some 5), .none, (.o (.s (.mv (.k (.int .i64 (1))))))⟩]) .ret) .skip)) (.seq (.ops 3 [⟨0,
    (.some 23), .none, (.lload 0 (.some 3) (.t 2))⟩, ⟨1, (.some 24), .none, (.o (.call 18 [(.t 23)]))⟩, ⟨2, (.some 6), .none, (.o (.s (.mv (.t 24))))⟩]) (.seq (.ops 9 [⟨0,
    (.some 26), .none, (.o (.s (.mv (.t 6))))⟩, ⟨1, (.some 27), .none, (.o (.call 29 [(.t 26)]))⟩, ⟨2, (.some 25), .none, (.o (.s (.mv (.t 27))))⟩, ⟨3, (.some 28), .none,
    (.o (.s (.ext (.t 25) 0)))⟩, ⟨4, (.some 29), .none, (.o (.s (.ext (.t 25) 1)))⟩, ⟨5, (.some 30), .none, (.o (.s (.ext (.t 25) 2)))⟩, ⟨6, (.some 7), .none,
    (.o (.s (.mv (.t 28))))⟩, ⟨7, (.some 8), .none, (.o (.s (.mv (.t 29))))⟩, ⟨8, (.some 9), .none, (.o (.s (.mv (.t 30))))⟩]) (.seq (.ops 3 [⟨0, (.some 31), .none,
    (.o (.s (.mv (.t 6))))⟩, ⟨1, (.some 32), .none, (.o (.call 30 [(.t 31)]))⟩, ⟨2, (.some 10), .none, (.o (.s (.mv (.t 32))))⟩]) (.seq (.ops 1 [⟨0, (.some 11), .none,
    (.o (.s (.alloc 66 [.nilp, .nils, (.int .i64 (0)), (.int .i64 (0)), (.int .i64 (0))])))⟩]) (.seq (.ops 2 [⟨0, (.some 33), .none, (.lbsl 2 4 1 1 [(.bool .false)] [(0,
    (.k (.bool .false)))] .true)⟩, ⟨1, (.some 12), .none, (.o (.s (.mv (.t 33))))⟩]) (.seq (.seq (.ops 3 [⟨0, (.some 34), .none, (.o (.s (.mv (.t 6))))⟩, ⟨1, (.some 35),
    .none, (.o (.s (.len (.t 34))))⟩, ⟨2, (.some 36), .none, (.o (.s (.mv (.k (.int .i64 (0))))))⟩]) (.block 0 (.loop F13l0))) (.seq (.ops 4 [⟨0, (.some 129), .none,
    (.o (.s (.fa 0 (.t 11))))⟩, ⟨1, (.some 130), .none, (.o (.call 33 [(.t 129)]))⟩, ⟨2, (.some 4), .none, (.o (.s (.mv (.t 130))))⟩, ⟨3, (.some 5), .none,
    (.o (.s (.mv (.k (.int .i64 (0))))))⟩]) .ret)))))))))
noncomputable def F13b : Go.Code := Go.Proofs.Try.f13.body.getD .skip
theorem F13c : comp C [(7, 0), (30, 35)] F13b = some F13s.er := by kernel_rfl
theorem F13w : F13s.wf = true := by kernel_rfl
theorem F13d : Go.Proofs.Try.f13.body = some F13b := by kernel_rfl
@[simp] def F13q : List RV2 := [(.o (.tmp 4)), (.o (.tmp 5))]
theorem F13r : compRVs C Go.Proofs.Try.f13.results.toList = some (F13q.map RV2.er) := by kernel_rfl
theorem F13e : Enters Go.Proofs.Try.prog 13 := enters_of Go.Proofs.Try.func13 (by kernel_rfl) (by kernel_rfl)

/-- scarf/scarflaw07.Built -- 0: box t1; 1: box t2; 2: grows t3 t28 t36 t41 t46 t49 -/
def F14l0 : S2 :=
  (.seq (.seq (.ops 5 [⟨0, (.some 21), .none, (.o (.s (.mv (.t 4))))⟩, ⟨1, (.some 22), .none, (.o (.s (.fa 2 (.t 1))))⟩, ⟨2, (.some 23), .none, (.lload 0 .none (.t 22))⟩,
    ⟨3, (.some 24), .none, (.o (.s (.len (.t 23))))⟩, ⟨4, (.some 25), .none, (.o (.s (.bin .lss (.t 21) (.t 24))))⟩]) (.cond (.t 25) .skip (.exit 1)))
    (.seq (.block 2 (.ops 10 [⟨0, (.some 28), .none, (.o (.s (.mv (.t 3))))⟩, ⟨1, (.some 29), .none, (.o (.s (.fa 2 (.t 1))))⟩, ⟨2, (.some 30), .none,
    (.lload 0 .none (.t 29))⟩, ⟨3, (.some 31), .none, (.o (.s (.mv (.t 4))))⟩, ⟨4, (.some 32), .none, (.o (.s (.ia 3 (.t 30) (.t 31))))⟩, ⟨5, (.some 33), .none,
    (.o (.s (.load (.some 3) (.t 32))))⟩, ⟨6, (.some 34), .none, (.o (.call 14 [(.t 33)]))⟩, ⟨7, (.some 35), .none, (.lbsl 3 34 3 1 [(.int .i64 (0)), (.str []), .nils]
    [(0, (.t 34))] .false)⟩, ⟨8, (.some 36), .none, (.lapp 2 34 3 48 (.t 28) (.t 35))⟩, ⟨9, (.some 3), .none, (.o (.s (.mv (.t 36))))⟩])) (.ops 3 [⟨0, (.some 26), .none,
    (.o (.s (.mv (.t 4))))⟩, ⟨1, (.some 27), .none, (.o (.s (.bin .add (.t 26) (.k (.int .i64 (1))))))⟩, ⟨2, (.some 4), .none, (.o (.s (.mv (.t 27))))⟩])))
theorem F14l0w : F14l0.wf = true := by kernel_rfl
def F14s : S2 :=
  (.seq (.ops 2 [⟨0, (.some 1), .none, (.lbox 0 27 (.t 0))⟩, ⟨1, (.some 2), .none, (.lalloc 1 34 [(.int .i64 (0)), (.str []), .nils])⟩]) (.seq (.seq (.ops 2 [⟨0, (.some 5),
    .none, (.o (.s (.fa 0 (.t 1))))⟩, ⟨1, (.some 6), .none, (.lload 0 .none (.t 5))⟩]) (.block 0 (.seq (.ops 2 [⟨0, (.some 8), .none, (.o (.s (.bin .eql (.t 6)
    (.k (.int .i64 (1))))))⟩, ⟨1, (.some 7), .none, (.o (.s (.mv (.t 8))))⟩]) (.cond (.t 7) (.seq (.ops 4 [⟨0, (.some 9), .none, (.o (.s (.fa 1 (.t 1))))⟩, ⟨1, (.some 10),
    .none, (.lload 0 .none (.t 9))⟩, ⟨2, (.some 11), .none, (.o (.call 25 [(.t 10)]))⟩, ⟨3, .none, .none, (.lstore 1 3 (.t 2) (.t 11))⟩]) .ret) (.seq (.ops 2 [⟨0,
    (.some 13), .none, (.o (.s (.bin .eql (.t 6) (.k (.int .i64 (2))))))⟩, ⟨1, (.some 12), .none, (.o (.s (.mv (.t 13))))⟩]) (.cond (.t 12) (.seq (.ops 2 [⟨0, (.some 14),
    .none, (.o (.call 27 []))⟩, ⟨1, .none, .none, (.lstore 1 3 (.t 2) (.t 14))⟩]) .ret) (.seq (.ops 2 [⟨0, (.some 16), .none, (.o (.s (.bin .eql (.t 6)
    (.k (.int .i64 (3))))))⟩, ⟨1, (.some 15), .none, (.o (.s (.mv (.t 16))))⟩]) (.cond (.t 15) (.seq (.ops 2 [⟨0, (.some 17), .none, (.o (.call 26 []))⟩, ⟨1, .none, .none,
    (.lstore 1 3 (.t 2) (.t 17))⟩]) .ret) (.seq (.ops 2 [⟨0, (.some 19), .none, (.o (.s (.bin .eql (.t 6) (.k (.int .i64 (4))))))⟩, ⟨1, (.some 18), .none,
    (.o (.s (.mv (.t 19))))⟩]) (.cond (.t 18) (.seq (.ops 2 [⟨0, (.some 20), .none, (.o (.call 21 []))⟩, ⟨1, .none, .none, (.lstore 1 3 (.t 2) (.t 20))⟩]) .ret)
    .skip)))))))))) (.seq (.ops 1 [⟨0, (.some 3), .none, (.o (.s (.mv (.k .nils))))⟩]) (.seq (.seq (.ops 1 [⟨0, (.some 4), .none, (.o (.s (.mv (.k (.int .i64 (0))))))⟩])
    (.block 1 (.loop F14l0))) (.seq (.seq (.ops 2 [⟨0, (.some 37), .none, (.o (.s (.fa 0 (.t 1))))⟩, ⟨1, (.some 38), .none, (.lload 0 .none (.t 37))⟩])
    (.block 3 (.seq (.ops 2 [⟨0, (.some 40), .none, (.o (.s (.bin .eql (.t 38) (.k (.int .i64 (5))))))⟩, ⟨1, (.some 39), .none, (.o (.s (.mv (.t 40))))⟩]) (.cond (.t 39)
    (.seq (.ops 4 [⟨0, (.some 41), .none, (.o (.s (.mv (.t 3))))⟩, ⟨1, (.some 42), .none, (.o (.call 20 [(.t 41)]))⟩, ⟨2, (.some 43), .none, (.o (.call 23 [(.t 42)]))⟩,
    ⟨3, .none, .none, (.lstore 1 3 (.t 2) (.t 43))⟩]) .ret) (.seq (.ops 2 [⟨0, (.some 45), .none, (.o (.s (.bin .eql (.t 38) (.k (.int .i64 (7))))))⟩, ⟨1, (.some 44),
    .none, (.o (.s (.mv (.t 45))))⟩]) (.cond (.t 44) (.seq (.ops 4 [⟨0, (.some 46), .none, (.o (.s (.mv (.t 3))))⟩, ⟨1, (.some 47), .none, (.o (.call 20 [(.t 46)]))⟩, ⟨2,
    (.some 48), .none, (.o (.call 22 [(.t 47)]))⟩, ⟨3, .none, .none, (.lstore 1 3 (.t 2) (.t 48))⟩]) .ret) .skip)))))) (.seq (.ops 3 [⟨0, (.some 49), .none,
    (.o (.s (.mv (.t 3))))⟩, ⟨1, (.some 50), .none, (.o (.call 20 [(.t 49)]))⟩, ⟨2, .none, .none, (.lstore 1 3 (.t 2) (.t 50))⟩]) .ret))))))
noncomputable def F14b : Go.Code := Go.Proofs.Try.f14.body.getD .skip
theorem F14c : comp C [] F14b = some F14s.er := by kernel_rfl
theorem F14w : F14s.wf = true := by kernel_rfl
theorem F14d : Go.Proofs.Try.f14.body = some F14b := by kernel_rfl
@[simp] def F14q : List RV2 := [(.lcell 1 2 (.some 3))]
theorem F14r : compRVs C Go.Proofs.Try.f14.results.toList = some (F14q.map RV2.er) := by kernel_rfl
theorem F14e : Enters Go.Proofs.Try.prog 14 := enters_of Go.Proofs.Try.func14 (by kernel_rfl) (by kernel_rfl)

/-- scarf/scarfref08.Of --  -/
def F15l0 : S2 :=
  (.seq (.seq (.ops 2 [⟨0, (.some 46), .none, (.o (.s (.mv (.t 9))))⟩, ⟨1, (.some 47), .none, (.o (.s (.bin .gtr (.t 46) (.k (.int .i64 (0))))))⟩]) (.cond (.t 47)
    .skip (.exit 2))) (.block 3 (.seq (.ops 3 [⟨0, (.some 48), .none, (.o (.s (.mv (.t 6))))⟩, ⟨1, (.some 49), .none, (.o (.s (.bin .add (.t 48) (.k (.str [9])))))⟩, ⟨2,
    (.some 6), .none, (.o (.s (.mv (.t 49))))⟩]) (.ops 3 [⟨0, (.some 50), .none, (.o (.s (.mv (.t 9))))⟩, ⟨1, (.some 51), .none, (.o (.s (.bin .sub (.t 50)
    (.k (.int .i64 (1))))))⟩, ⟨2, (.some 9), .none, (.o (.s (.mv (.t 51))))⟩]))))
theorem F15l0w : F15l0.wf = true := by kernel_rfl
def F15l1 : S2 :=
  (.seq (.seq (.ops 4 [⟨0, (.some 20), .none, (.o (.s (.mv (.t 11))))⟩, ⟨1, (.some 21), .none, (.o (.s (.mv (.t 0))))⟩, ⟨2, (.some 22), .none, (.o (.s (.len (.t 21))))⟩, ⟨3,
    (.some 23), .none, (.o (.s (.bin .lss (.t 20) (.t 22))))⟩]) (.cond (.t 23) .skip (.exit 0))) (.seq (.block 1 (.seq (.ops 6 [⟨0, (.some 26), .none,
    (.o (.s (.mv (.t 0))))⟩, ⟨1, (.some 27), .none, (.o (.s (.mv (.t 11))))⟩, ⟨2, (.some 28), .none, (.o (.s (.ia 2 (.t 26) (.t 27))))⟩, ⟨3, (.some 29), .none,
    (.o (.s (.fa 0 (.t 28))))⟩, ⟨4, (.some 30), .none, (.o (.s (.load .none (.t 29))))⟩, ⟨5, (.some 12), .none, (.o (.s (.mv (.t 30))))⟩]) (.seq (.ops 1 [⟨0, (.some 13),
    .none, (.o (.s (.mv (.k (.str [])))))⟩]) (.seq (.seq (.ops 2 [⟨0, (.some 31), .none, (.o (.s (.mv (.t 12))))⟩, ⟨1, (.some 32), .none, (.o (.s (.bin .eql (.t 31)
    (.k (.int .i64 (1))))))⟩]) (.cond (.t 32) (.ops 6 [⟨0, (.some 33), .none, (.o (.s (.mv (.t 0))))⟩, ⟨1, (.some 34), .none, (.o (.s (.mv (.t 11))))⟩, ⟨2, (.some 35),
    .none, (.o (.s (.ia 2 (.t 33) (.t 34))))⟩, ⟨3, (.some 36), .none, (.o (.s (.fa 1 (.t 35))))⟩, ⟨4, (.some 37), .none, (.o (.s (.load .none (.t 36))))⟩, ⟨5, (.some 13),
    .none, (.o (.s (.mv (.t 37))))⟩]) .skip)) (.seq (.seq (.ops 6 [⟨0, (.some 38), .none, (.o (.s (.mv (.t 12))))⟩, ⟨1, (.some 39), .none, (.o (.s (.bin .eql (.t 38)
    (.k (.int .i64 (2))))))⟩, ⟨2, (.some 40), .none, (.o (.s (.mv (.t 39))))⟩, ⟨3, (.some 41), (.some (40, .true)), (.o (.s (.mv (.t 10))))⟩, ⟨4, (.some 42), (.some (40,
    .true)), (.o (.s (.bin .gtr (.t 41) (.k (.int .i64 (0))))))⟩, ⟨5, (.some 43), .none, (.o (.s (.pick (.t 40) (.t 42) (.k (.bool .false)))))⟩]) (.cond (.t 43)
    (.ops 1 [⟨0, (.some 13), .none, (.o (.s (.mv (.k (.str [32])))))⟩]) .skip)) (.seq (.seq (.ops 2 [⟨0, (.some 44), .none, (.o (.s (.mv (.t 13))))⟩, ⟨1, (.some 45),
    .none, (.o (.s (.bin .neq (.t 44) (.k (.str [])))))⟩]) (.cond (.t 45) (.seq (.block 2 (.loop F15l0)) (.seq (.ops 4 [⟨0, (.some 52), .none, (.o (.s (.mv (.t 6))))⟩, ⟨1,
    (.some 53), .none, (.o (.s (.mv (.t 13))))⟩, ⟨2, (.some 54), .none, (.o (.s (.bin .add (.t 52) (.t 53))))⟩, ⟨3, (.some 6), .none, (.o (.s (.mv (.t 54))))⟩])
    (.ops 5 [⟨0, (.some 55), .none, (.o (.s (.mv (.t 7))))⟩, ⟨1, (.some 56), .none, (.o (.s (.mv (.t 13))))⟩, ⟨2, (.some 57), .none, (.o (.call 11 [(.t 56)]))⟩, ⟨3,
    (.some 58), .none, (.o (.s (.bin .add (.t 55) (.t 57))))⟩, ⟨4, (.some 7), .none, (.o (.s (.mv (.t 58))))⟩]))) .skip)) (.seq (.seq (.ops 14 [⟨0, (.some 59), .none,
    (.o (.s (.mv (.t 12))))⟩, ⟨1, (.some 60), .none, (.o (.s (.bin .eql (.t 59) (.k (.int .i64 (4))))))⟩, ⟨2, (.some 61), .none, (.o (.s (.mv (.t 60))))⟩, ⟨3, (.some 62),
    (.some (61, .false)), (.o (.s (.mv (.t 12))))⟩, ⟨4, (.some 63), (.some (61, .false)), (.o (.s (.bin .eql (.t 62) (.k (.int .i64 (2))))))⟩, ⟨5, (.some 64), (.some (61,
    .false)), (.o (.s (.mv (.t 63))))⟩, ⟨6, (.some 65), (.some (64, .false)), (.o (.s (.mv (.t 12))))⟩, ⟨7, (.some 66), (.some (64, .false)), (.o (.s (.bin .eql (.t 65)
    (.k (.int .i64 (3))))))⟩, ⟨8, (.some 67), (.some (61, .false)), (.o (.s (.pick (.t 64) (.k (.bool .true)) (.t 66))))⟩, ⟨9, (.some 68), (.some (61, .false)),
    (.o (.s (.mv (.t 67))))⟩, ⟨10, (.some 69), (.some (68, .true)), (.o (.s (.mv (.t 10))))⟩, ⟨11, (.some 70), (.some (68, .true)), (.o (.s (.bin .eql (.t 69)
    (.k (.int .i64 (0))))))⟩, ⟨12, (.some 71), (.some (61, .false)), (.o (.s (.pick (.t 68) (.t 70) (.k (.bool .false)))))⟩, ⟨13, (.some 72), .none, (.o (.s (.pick (.t 61)
    (.k (.bool .true)) (.t 71))))⟩]) (.cond (.t 72) (.seq (.ops 3 [⟨0, (.some 73), .none, (.o (.s (.mv (.t 6))))⟩, ⟨1, (.some 74), .none, (.o (.s (.bin .add (.t 73)
    (.k (.str [10])))))⟩, ⟨2, (.some 6), .none, (.o (.s (.mv (.t 74))))⟩]) (.seq (.ops 3 [⟨0, (.some 75), .none, (.o (.s (.mv (.t 8))))⟩, ⟨1, (.some 76), .none,
    (.o (.s (.bin .mul (.k (.int .i64 (4))) (.t 75))))⟩, ⟨2, (.some 7), .none, (.o (.s (.mv (.t 76))))⟩]) (.ops 2 [⟨0, (.some 77), .none, (.o (.s (.mv (.t 8))))⟩, ⟨1,
    (.some 9), .none, (.o (.s (.mv (.t 77))))⟩]))) .skip)) (.seq (.ops 1 [⟨0, (.some 78), .none, (.o (.s (.mv (.t 12))))⟩]) (.block 4 (.seq (.ops 2 [⟨0, (.some 80), .none,
    (.o (.s (.bin .eql (.t 78) (.k (.int .i64 (5))))))⟩, ⟨1, (.some 79), .none, (.o (.s (.mv (.t 80))))⟩]) (.cond (.t 79) (.ops 3 [⟨0, (.some 81), .none,
    (.o (.s (.mv (.t 8))))⟩, ⟨1, (.some 82), .none, (.o (.s (.bin .add (.t 81) (.k (.int .i64 (1))))))⟩, ⟨2, (.some 8), .none, (.o (.s (.mv (.t 82))))⟩])
    (.seq (.ops 2 [⟨0, (.some 84), .none, (.o (.s (.bin .eql (.t 78) (.k (.int .i64 (6))))))⟩, ⟨1, (.some 83), .none, (.o (.s (.mv (.t 84))))⟩]) (.cond (.t 83)
    (.ops 3 [⟨0, (.some 85), .none, (.o (.s (.mv (.t 8))))⟩, ⟨1, (.some 86), .none, (.o (.s (.bin .sub (.t 85) (.k (.int .i64 (1))))))⟩, ⟨2, (.some 8), .none,
    (.o (.s (.mv (.t 86))))⟩]) (.seq (.ops 2 [⟨0, (.some 88), .none, (.o (.s (.bin .eql (.t 78) (.k (.int .i64 (7))))))⟩, ⟨1, (.some 87), .none, (.o (.s (.mv (.t 88))))⟩])
    (.cond (.t 87) (.seq (.ops 9 [⟨0, (.some 89), .none, (.o (.s (.mv (.t 10))))⟩, ⟨1, (.some 90), .none, (.o (.s (.bin .gtr (.t 89) (.k (.int .i64 (0))))))⟩, ⟨2,
    (.some 91), .none, (.o (.s (.mv (.t 90))))⟩, ⟨3, (.some 92), (.some (91, .false)), (.o (.s (.mv (.t 0))))⟩, ⟨4, (.some 93), (.some (91, .false)),
    (.o (.s (.mv (.t 11))))⟩, ⟨5, (.some 94), (.some (91, .false)), (.o (.s (.mv (.t 7))))⟩, ⟨6, (.some 95), (.some (91, .false)), (.o (.s (.mv (.t 1))))⟩, ⟨7, (.some 96),
    (.some (91, .false)), (.o (.call 34 [(.t 92), (.t 93), (.t 94), (.t 95)]))⟩, ⟨8, (.some 97), .none, (.o (.s (.pick (.t 91) (.k (.bool .true)) (.t 96))))⟩])
    (.cond (.t 97) (.ops 3 [⟨0, (.some 98), .none, (.o (.s (.mv (.t 10))))⟩, ⟨1, (.some 99), .none, (.o (.s (.bin .add (.t 98) (.k (.int .i64 (1))))))⟩, ⟨2, (.some 10),
    .none, (.o (.s (.mv (.t 99))))⟩]) .skip)) (.seq (.ops 2 [⟨0, (.some 101), .none, (.o (.s (.bin .eql (.t 78) (.k (.int .i64 (8))))))⟩, ⟨1, (.some 100), .none,
    (.o (.s (.mv (.t 101))))⟩]) (.cond (.t 100) (.seq (.ops 2 [⟨0, (.some 102), .none, (.o (.s (.mv (.t 10))))⟩, ⟨1, (.some 103), .none, (.o (.s (.bin .gtr (.t 102)
    (.k (.int .i64 (0))))))⟩]) (.cond (.t 103) (.ops 3 [⟨0, (.some 104), .none, (.o (.s (.mv (.t 10))))⟩, ⟨1, (.some 105), .none, (.o (.s (.bin .sub (.t 104)
    (.k (.int .i64 (1))))))⟩, ⟨2, (.some 10), .none, (.o (.s (.mv (.t 105))))⟩]) .skip)) .skip))))))))))))))))) (.ops 3 [⟨0, (.some 24), .none, (.o (.s (.mv (.t 11))))⟩,
    ⟨1, (.some 25), .none, (.o (.s (.bin .add (.t 24) (.k (.int .i64 (1))))))⟩, ⟨2, (.some 11), .none, (.o (.s (.mv (.t 25))))⟩])))
theorem F15l1w : F15l1.wf = true := by kernel_rfl
def F15s : S2 :=
  (.seq (.ops 2 [⟨0, (.some 4), .none, (.o (.s (.mv (.k (.str [])))))⟩, ⟨1, (.some 5), .none, (.o (.s (.mv (.k (.int .i64 (0))))))⟩]) (.seq (.seq (.ops 6 [⟨0, (.some 14),
    .none, (.o (.s (.mv (.t 1))))⟩, ⟨1, (.some 15), .none, (.o (.s (.bin .lss (.t 14) (.k (.int .i64 (1))))))⟩, ⟨2, (.some 16), .none, (.o (.s (.mv (.t 15))))⟩, ⟨3,
    (.some 17), (.some (16, .false)), (.o (.s (.mv (.t 1))))⟩, ⟨4, (.some 18), (.some (16, .false)), (.o (.s (.bin .gtr (.t 17) (.k (.int .i64 (65535))))))⟩, ⟨5,
    (.some 19), .none, (.o (.s (.pick (.t 16) (.k (.bool .true)) (.t 18))))⟩]) (.cond (.t 19) (.seq (.ops 2 [⟨0, (.some 4), .none, (.o (.s (.mv (.k (.str [])))))⟩, ⟨1,
    (.some 5), .none, (.o (.s (.mv (.k (.int .i64 (1))))))⟩]) .ret) .skip)) (.seq (.ops 1 [⟨0, (.some 6), .none, (.o (.s (.mv (.k (.str [])))))⟩]) (.seq (.ops 3 [⟨0,
    (.some 7), .none, (.o (.s (.mv (.k (.int .i64 (0))))))⟩, ⟨1, (.some 8), .none, (.o (.s (.mv (.k (.int .i64 (0))))))⟩, ⟨2, (.some 9), .none,
    (.o (.s (.mv (.k (.int .i64 (0))))))⟩]) (.seq (.ops 1 [⟨0, (.some 10), .none, (.o (.s (.mv (.k (.int .i64 (0))))))⟩]) (.seq (.seq (.ops 1 [⟨0, (.some 11), .none,
    (.o (.s (.mv (.k (.int .i64 (0))))))⟩]) (.block 0 (.loop F15l1))) (.seq (.ops 3 [⟨0, (.some 106), .none, (.o (.s (.mv (.t 6))))⟩, ⟨1, (.some 4), .none,
    (.o (.s (.mv (.t 106))))⟩, ⟨2, (.some 5), .none, (.o (.s (.mv (.k (.int .i64 (0))))))⟩]) .ret)))))))
noncomputable def F15b : Go.Code := Go.Proofs.Try.f15.body.getD .skip
theorem F15c : comp C [] F15b = some F15s.er := by kernel_rfl
theorem F15w : F15s.wf = true := by kernel_rfl
theorem F15d : Go.Proofs.Try.f15.body = some F15b := by kernel_rfl
@[simp] def F15q : List RV2 := [(.o (.tmp 4)), (.o (.tmp 5))]
theorem F15r : compRVs C Go.Proofs.Try.f15.results.toList = some (F15q.map RV2.er) := by kernel_rfl
theorem F15e : Enters Go.Proofs.Try.prog 15 := enters_of Go.Proofs.Try.func15 (by kernel_rfl) (by kernel_rfl)

/-- scarf/scarfref07.Pieces -- 0: box t2; 1: grows t4 t5 t17 t25 t34 t39 t46 t53 t60 t64 t73 t79 t80 -/
def F16l0 : S2 :=
  (.seq (.seq (.ops 11 [⟨0, (.some 40), .none, (.o (.s (.mv (.t 6))))⟩, ⟨1, (.some 41), .none, (.o (.s (.fa 2 (.t 2))))⟩, ⟨2, (.some 42), .none, (.lload 0 .none (.t 41))⟩,
    ⟨3, (.some 43), .none, (.o (.s (.len (.t 42))))⟩, ⟨4, (.some 44), .none, (.o (.s (.bin .lss (.t 40) (.t 43))))⟩, ⟨5, (.some 45), .none, (.o (.s (.mv (.t 44))))⟩, ⟨6,
    (.some 46), (.some (45, .true)), (.o (.s (.mv (.t 5))))⟩, ⟨7, (.some 47), (.some (45, .true)), (.o (.s (.len (.t 46))))⟩, ⟨8, (.some 48), (.some (45, .true)),
    (.o (.s (.mv (.t 1))))⟩, ⟨9, (.some 49), (.some (45, .true)), (.o (.s (.bin .lss (.t 47) (.t 48))))⟩, ⟨10, (.some 50), .none, (.o (.s (.pick (.t 45) (.t 49)
    (.k (.bool .false)))))⟩]) (.cond (.t 50) .skip (.exit 1))) (.seq (.block 2 (.ops 13 [⟨0, (.some 53), .none, (.o (.s (.mv (.t 5))))⟩, ⟨1, (.some 54), .none,
    (.o (.s (.fa 2 (.t 2))))⟩, ⟨2, (.some 55), .none, (.lload 0 .none (.t 54))⟩, ⟨3, (.some 56), .none, (.o (.s (.mv (.t 6))))⟩, ⟨4, (.some 57), .none,
    (.o (.s (.ia 3 (.t 55) (.t 56))))⟩, ⟨5, (.some 58), .none, (.o (.s (.load (.some 3) (.t 57))))⟩, ⟨6, (.some 59), .none, (.o (.s (.mv (.t 1))))⟩, ⟨7, (.some 60), .none,
    (.o (.s (.mv (.t 5))))⟩, ⟨8, (.some 61), .none, (.o (.s (.len (.t 60))))⟩, ⟨9, (.some 62), .none, (.o (.s (.bin .sub (.t 59) (.t 61))))⟩, ⟨10, (.some 63), .none,
    (.o (.call 16 [(.t 58), (.t 62)]))⟩, ⟨11, (.some 64), .none, (.lapp 1 56 2 24 (.t 53) (.t 63))⟩, ⟨12, (.some 5), .none, (.o (.s (.mv (.t 64))))⟩])) (.ops 3 [⟨0,
    (.some 51), .none, (.o (.s (.mv (.t 6))))⟩, ⟨1, (.some 52), .none, (.o (.s (.bin .add (.t 51) (.k (.int .i64 (1))))))⟩, ⟨2, (.some 6), .none,
    (.o (.s (.mv (.t 52))))⟩])))
theorem F16l0w : F16l0.wf = true := by kernel_rfl
def F16s : S2 :=
  (.seq (.ops 2 [⟨0, (.some 2), .none, (.lbox 0 27 (.t 0))⟩, ⟨1, (.some 4), .none, (.o (.s (.mv (.k .nils))))⟩]) (.seq (.seq (.ops 2 [⟨0, (.some 7), .none,
    (.o (.s (.fa 0 (.t 2))))⟩, ⟨1, (.some 8), .none, (.lload 0 .none (.t 7))⟩]) (.block 0 (.seq (.ops 2 [⟨0, (.some 10), .none, (.o (.s (.bin .eql (.t 8)
    (.k (.int .i64 (1))))))⟩, ⟨1, (.some 9), .none, (.o (.s (.mv (.t 10))))⟩]) (.cond (.t 9) (.seq (.seq (.ops 3 [⟨0, (.some 11), .none, (.o (.s (.fa 1 (.t 2))))⟩, ⟨1,
    (.some 12), .none, (.lload 0 .none (.t 11))⟩, ⟨2, (.some 13), .none, (.o (.s (.bin .eql (.t 12) (.k (.str [])))))⟩]) (.cond (.t 13) (.seq (.ops 1 [⟨0, (.some 4),
    .none, (.o (.s (.mv (.k .nils))))⟩]) .ret) .skip)) (.seq (.ops 5 [⟨0, (.some 14), .none, (.o (.s (.fa 1 (.t 2))))⟩, ⟨1, (.some 15), .none, (.lload 0 .none (.t 14))⟩,
    ⟨2, (.some 16), .none, (.o (.s (.build [(.int .i64 (0)), (.str [])] [(0, (1, (.k (.int .i64 (1))))), (1, (1, (.t 15)))])))⟩, ⟨3, (.some 17), .none,
    (.lbsl 1 56 2 1 [(.int .i64 (0)), (.str [])] [(0, (.t 16))] .false)⟩, ⟨4, (.some 4), .none, (.o (.s (.mv (.t 17))))⟩]) .ret)) (.seq (.seq (.ops 2 [⟨0, (.some 19),
    .none, (.o (.s (.bin .eql (.t 8) (.k (.int .i64 (2))))))⟩, ⟨1, (.some 18), .none, (.o (.s (.mv (.t 19))))⟩]) (.cond (.t 18) .skip (.seq (.ops 2 [⟨0, (.some 20), .none,
    (.o (.s (.bin .eql (.t 8) (.k (.int .i64 (3))))))⟩, ⟨1, (.some 18), .none, (.o (.s (.mv (.t 20))))⟩]) (.cond (.t 18) .skip (.ops 2 [⟨0, (.some 21), .none,
    (.o (.s (.bin .eql (.t 8) (.k (.int .i64 (4))))))⟩, ⟨1, (.some 18), .none, (.o (.s (.mv (.t 21))))⟩]))))) (.cond (.t 18) (.seq (.ops 5 [⟨0, (.some 22), .none,
    (.o (.s (.fa 0 (.t 2))))⟩, ⟨1, (.some 23), .none, (.lload 0 .none (.t 22))⟩, ⟨2, (.some 24), .none, (.o (.s (.build [(.int .i64 (0)), (.str [])] [(0, (1, (.t 23))),
    (1, (1, (.k (.str []))))])))⟩, ⟨3, (.some 25), .none, (.lbsl 1 56 2 1 [(.int .i64 (0)), (.str [])] [(0, (.t 24))] .false)⟩, ⟨4, (.some 4), .none,
    (.o (.s (.mv (.t 25))))⟩]) .ret) .skip)))))) (.seq (.ops 1 [⟨0, (.some 5), .none, (.o (.s (.mv (.k .nils))))⟩]) (.seq (.seq (.ops 8 [⟨0, (.some 26), .none,
    (.o (.s (.fa 0 (.t 2))))⟩, ⟨1, (.some 27), .none, (.lload 0 .none (.t 26))⟩, ⟨2, (.some 28), .none, (.o (.s (.bin .eql (.t 27) (.k (.int .i64 (5))))))⟩, ⟨3,
    (.some 29), .none, (.o (.s (.mv (.t 28))))⟩, ⟨4, (.some 30), (.some (29, .false)), (.o (.s (.fa 0 (.t 2))))⟩, ⟨5, (.some 31), (.some (29, .false)),
    (.lload 0 .none (.t 30))⟩, ⟨6, (.some 32), (.some (29, .false)), (.o (.s (.bin .eql (.t 31) (.k (.int .i64 (7))))))⟩, ⟨7, (.some 33), .none, (.o (.s (.pick (.t 29)
    (.k (.bool .true)) (.t 32))))⟩]) (.cond (.t 33) (.ops 7 [⟨0, (.some 34), .none, (.o (.s (.mv (.t 5))))⟩, ⟨1, (.some 35), .none, (.o (.s (.fa 0 (.t 2))))⟩, ⟨2,
    (.some 36), .none, (.lload 0 .none (.t 35))⟩, ⟨3, (.some 37), .none, (.o (.s (.build [(.int .i64 (0)), (.str [])] [(0, (1, (.t 36))), (1, (1, (.k (.str []))))])))⟩,
    ⟨4, (.some 38), .none, (.lbsl 2 56 2 1 [(.int .i64 (0)), (.str [])] [(0, (.t 37))] .false)⟩, ⟨5, (.some 39), .none, (.lapp 1 56 2 24 (.t 34) (.t 38))⟩, ⟨6, (.some 5),
    .none, (.o (.s (.mv (.t 39))))⟩]) .skip)) (.seq (.seq (.ops 1 [⟨0, (.some 6), .none, (.o (.s (.mv (.k (.int .i64 (0))))))⟩]) (.block 1 (.loop F16l0)))
    (.seq (.seq (.ops 8 [⟨0, (.some 65), .none, (.o (.s (.fa 0 (.t 2))))⟩, ⟨1, (.some 66), .none, (.lload 0 .none (.t 65))⟩, ⟨2, (.some 67), .none,
    (.o (.s (.bin .eql (.t 66) (.k (.int .i64 (5))))))⟩, ⟨3, (.some 68), .none, (.o (.s (.mv (.t 67))))⟩, ⟨4, (.some 69), (.some (68, .false)), (.o (.s (.fa 0 (.t 2))))⟩,
    ⟨5, (.some 70), (.some (68, .false)), (.lload 0 .none (.t 69))⟩, ⟨6, (.some 71), (.some (68, .false)), (.o (.s (.bin .eql (.t 70) (.k (.int .i64 (7))))))⟩, ⟨7,
    (.some 72), .none, (.o (.s (.pick (.t 68) (.k (.bool .true)) (.t 71))))⟩]) (.cond (.t 72) (.ops 8 [⟨0, (.some 73), .none, (.o (.s (.mv (.t 5))))⟩, ⟨1, (.some 74),
    .none, (.o (.s (.fa 0 (.t 2))))⟩, ⟨2, (.some 75), .none, (.lload 0 .none (.t 74))⟩, ⟨3, (.some 76), .none, (.o (.s (.bin .add (.t 75) (.k (.int .i64 (1))))))⟩, ⟨4,
    (.some 77), .none, (.o (.s (.build [(.int .i64 (0)), (.str [])] [(0, (1, (.t 76))), (1, (1, (.k (.str []))))])))⟩, ⟨5, (.some 78), .none,
    (.lbsl 2 56 2 1 [(.int .i64 (0)), (.str [])] [(0, (.t 77))] .false)⟩, ⟨6, (.some 79), .none, (.lapp 1 56 2 24 (.t 73) (.t 78))⟩, ⟨7, (.some 5), .none,
    (.o (.s (.mv (.t 79))))⟩]) .skip)) (.seq (.ops 2 [⟨0, (.some 80), .none, (.o (.s (.mv (.t 5))))⟩, ⟨1, (.some 4), .none, (.o (.s (.mv (.t 80))))⟩]) .ret)))))))
noncomputable def F16b : Go.Code := Go.Proofs.Try.f16.body.getD .skip
theorem F16c : comp C [] F16b = some F16s.er := by kernel_rfl
theorem F16w : F16s.wf = true := by kernel_rfl
theorem F16d : Go.Proofs.Try.f16.body = some F16b := by kernel_rfl
@[simp] def F16q : List RV2 := [(.o (.tmp 4))]
theorem F16r : compRVs C Go.Proofs.Try.f16.results.toList = some (F16q.map RV2.er) := by kernel_rfl
theorem F16e : Enters Go.Proofs.Try.prog 16 := enters_of Go.Proofs.Try.func16 (by kernel_rfl) (by kernel_rfl)

/-- scarf/scarflaw08.page --  -/
def F17s : S2 :=
  (.seq (.ops 1 [⟨0, (.some 2), .none, (.o (.s (.mv (.k (.int .i64 (0))))))⟩]) (.seq (.ops 6 [⟨0, (.some 3), .none, (.o (.s (.mv (.t 0))))⟩, ⟨1, (.some 4), .none,
    (.o (.s (.cvi .u64 (.t 3))))⟩, ⟨2, (.some 5), .none, (.o (.s (.bin .rem (.t 4) (.k (.int .u64 (200))))))⟩, ⟨3, (.some 6), .none, (.o (.s (.cvi .i64 (.t 5))))⟩, ⟨4,
    (.some 7), .none, (.o (.s (.bin .add (.k (.int .i64 (1))) (.t 6))))⟩, ⟨5, (.some 2), .none, (.o (.s (.mv (.t 7))))⟩]) .ret))
noncomputable def F17b : Go.Code := Go.Proofs.Try.f17.body.getD .skip
theorem F17c : comp C [] F17b = some F17s.er := by kernel_rfl
theorem F17w : F17s.wf = true := by kernel_rfl
theorem F17d : Go.Proofs.Try.f17.body = some F17b := by kernel_rfl
@[simp] def F17q : List RV2 := [(.o (.tmp 2))]
theorem F17r : compRVs C Go.Proofs.Try.f17.results.toList = some (F17q.map RV2.er) := by kernel_rfl
theorem F17e : Enters Go.Proofs.Try.prog 17 := enters_of Go.Proofs.Try.func17 (by kernel_rfl) (by kernel_rfl)

/-- (scarf/doc.Doc).Plain -- 0: box t1 -/
def F18s : S2 :=
  (.seq (.ops 2 [⟨0, (.some 1), .none, (.lbox 0 34 (.t 0))⟩, ⟨1, (.some 2), .none, (.o (.s (.mv (.k .nils))))⟩]) (.seq (.ops 1 [⟨0, (.some 3), .none,
    (.o (.s (.alloc 42 [.nils])))⟩]) (.seq (.ops 1 [⟨0, (.some 4), .none, (.o (.s (.alloc 72 [.nilf])))⟩]) (.seq (.ops 2 [⟨0, (.some 5), .none, (.o (.s (.mkf (.func 35) []
    [(.t 3), (.t 4)])))⟩, ⟨1, .none, .none, (.o (.s (.store 1 (.t 4) (.t 5))))⟩]) (.seq (.ops 3 [⟨0, (.some 6), .none, (.o (.s (.load .none (.t 4))))⟩, ⟨1, (.some 7),
    .none, (.lload 0 (.some 3) (.t 1))⟩, ⟨2, (.some 8), .none, (.o (.callv (.t 6) [(.t 7)]))⟩]) (.seq (.ops 2 [⟨0, (.some 9), .none, (.o (.s (.load .none (.t 3))))⟩, ⟨1,
    (.some 2), .none, (.o (.s (.mv (.t 9))))⟩]) .ret))))))
noncomputable def F18b : Go.Code := Go.Proofs.Try.f18.body.getD .skip
theorem F18c : comp C [] F18b = some F18s.er := by kernel_rfl
theorem F18w : F18s.wf = true := by kernel_rfl
theorem F18d : Go.Proofs.Try.f18.body = some F18b := by kernel_rfl
@[simp] def F18q : List RV2 := [(.o (.tmp 2))]
theorem F18r : compRVs C Go.Proofs.Try.f18.results.toList = some (F18q.map RV2.er) := by kernel_rfl
theorem F18e : Enters Go.Proofs.Try.prog 18 := enters_of Go.Proofs.Try.func18 (by kernel_rfl) (by kernel_rfl)

/-- scarf/scarflaw08.plain -- 0: grows t3 t27 t32 t33 -/
def F19l0 : S2 :=
  (.seq (.seq (.ops 4 [⟨0, (.some 5), .none, (.o (.s (.mv (.t 4))))⟩, ⟨1, (.some 6), .none, (.o (.s (.mv (.t 0))))⟩, ⟨2, (.some 7), .none, (.o (.s (.lens (.t 6))))⟩, ⟨3,
    (.some 8), .none, (.o (.s (.bin .lss (.t 5) (.t 7))))⟩]) (.cond (.t 8) .skip (.exit 0))) (.seq (.block 1 (.seq (.ops 16 [⟨0, (.some 11), .none,
    (.o (.s (.mv (.t 0))))⟩, ⟨1, (.some 12), .none, (.o (.s (.mv (.t 4))))⟩, ⟨2, (.some 13), .none, (.o (.s (.ixs (.t 11) (.t 12))))⟩, ⟨3, (.some 14), .none,
    (.o (.s (.bin .neq (.t 13) (.k (.int .u8 (32))))))⟩, ⟨4, (.some 15), .none, (.o (.s (.mv (.t 14))))⟩, ⟨5, (.some 16), (.some (15, .true)), (.o (.s (.mv (.t 0))))⟩, ⟨6,
    (.some 17), (.some (15, .true)), (.o (.s (.mv (.t 4))))⟩, ⟨7, (.some 18), (.some (15, .true)), (.o (.s (.ixs (.t 16) (.t 17))))⟩, ⟨8, (.some 19), (.some (15, .true)),
    (.o (.s (.bin .neq (.t 18) (.k (.int .u8 (9))))))⟩, ⟨9, (.some 20), .none, (.o (.s (.pick (.t 15) (.t 19) (.k (.bool .false)))))⟩, ⟨10, (.some 21), .none,
    (.o (.s (.mv (.t 20))))⟩, ⟨11, (.some 22), (.some (21, .true)), (.o (.s (.mv (.t 0))))⟩, ⟨12, (.some 23), (.some (21, .true)), (.o (.s (.mv (.t 4))))⟩, ⟨13,
    (.some 24), (.some (21, .true)), (.o (.s (.ixs (.t 22) (.t 23))))⟩, ⟨14, (.some 25), (.some (21, .true)), (.o (.s (.bin .neq (.t 24) (.k (.int .u8 (10))))))⟩, ⟨15,
    (.some 26), .none, (.o (.s (.pick (.t 21) (.t 25) (.k (.bool .false)))))⟩]) (.cond (.t 26) (.ops 7 [⟨0, (.some 27), .none, (.o (.s (.mv (.t 3))))⟩, ⟨1, (.some 28),
    .none, (.o (.s (.mv (.t 0))))⟩, ⟨2, (.some 29), .none, (.o (.s (.mv (.t 4))))⟩, ⟨3, (.some 30), .none, (.o (.s (.ixs (.t 28) (.t 29))))⟩, ⟨4, (.some 31), .none,
    (.lbsl 1 5 1 1 [(.int .u8 (0))] [(0, (.t 30))] .false)⟩, ⟨5, (.some 32), .none, (.lapp 0 5 1 1 (.t 27) (.t 31))⟩, ⟨6, (.some 3), .none, (.o (.s (.mv (.t 32))))⟩])
    .skip))) (.ops 3 [⟨0, (.some 9), .none, (.o (.s (.mv (.t 4))))⟩, ⟨1, (.some 10), .none, (.o (.s (.bin .add (.t 9) (.k (.int .i64 (1))))))⟩, ⟨2, (.some 4), .none,
    (.o (.s (.mv (.t 10))))⟩])))
theorem F19l0w : F19l0.wf = true := by kernel_rfl
def F19s : S2 :=
  (.seq (.ops 1 [⟨0, (.some 2), .none, (.o (.s (.mv (.k (.str [])))))⟩]) (.seq (.ops 1 [⟨0, (.some 3), .none, (.o (.s (.mv (.k .nils))))⟩]) (.seq (.seq (.ops 1 [⟨0,
    (.some 4), .none, (.o (.s (.mv (.k (.int .i64 (0))))))⟩]) (.block 0 (.loop F19l0))) (.seq (.ops 3 [⟨0, (.some 33), .none, (.o (.s (.mv (.t 3))))⟩, ⟨1, (.some 34),
    .none, (.o (.s (.b2s (.t 33))))⟩, ⟨2, (.some 2), .none, (.o (.s (.mv (.t 34))))⟩]) .ret))))
noncomputable def F19b : Go.Code := Go.Proofs.Try.f19.body.getD .skip
theorem F19c : comp C [] F19b = some F19s.er := by kernel_rfl
theorem F19w : F19s.wf = true := by kernel_rfl
theorem F19d : Go.Proofs.Try.f19.body = some F19b := by kernel_rfl
@[simp] def F19q : List RV2 := [(.o (.tmp 2))]
theorem F19r : compRVs C Go.Proofs.Try.f19.results.toList = some (F19q.map RV2.er) := by kernel_rfl
theorem F19e : Enters Go.Proofs.Try.prog 19 := enters_of Go.Proofs.Try.func19 (by kernel_rfl) (by kernel_rfl)

/-- scarf/doc.Row -- 0: box t2 -/
def F20s : S2 :=
  (.seq (.ops 1 [⟨0, (.some 2), .none, (.lalloc 0 34 [(.int .i64 (0)), (.str []), .nils])⟩]) (.seq (.ops 4 [⟨0, (.some 3), .none, (.o (.s (.mv (.t 0))))⟩, ⟨1, (.some 4),
    .none, (.o (.call 36 [(.t 3)]))⟩, ⟨2, (.some 5), .none, (.o (.s (.build [(.int .i64 (0)), (.str []), .nils] [(2, (1, (.t 4)))])))⟩, ⟨3, .none, .none,
    (.lstore 0 3 (.t 2) (.t 5))⟩]) .ret))
noncomputable def F20b : Go.Code := Go.Proofs.Try.f20.body.getD .skip
theorem F20c : comp C [] F20b = some F20s.er := by kernel_rfl
theorem F20w : F20s.wf = true := by kernel_rfl
theorem F20d : Go.Proofs.Try.f20.body = some F20b := by kernel_rfl
@[simp] def F20q : List RV2 := [(.lcell 0 2 (.some 3))]
theorem F20r : compRVs C Go.Proofs.Try.f20.results.toList = some (F20q.map RV2.er) := by kernel_rfl
theorem F20e : Enters Go.Proofs.Try.prog 20 := enters_of Go.Proofs.Try.func20 (by kernel_rfl) (by kernel_rfl)

/-- scarf/doc.Hard -- 0: box t0 -/
def F21s : S2 :=
  (.seq (.ops 1 [⟨0, (.some 0), .none, (.lalloc 0 34 [(.int .i64 (0)), (.str []), .nils])⟩]) (.seq (.ops 2 [⟨0, (.some 1), .none, (.o (.s (.build [(.int .i64 (0)),
    (.str []), .nils] [(0, (1, (.k (.int .i64 (4)))))])))⟩, ⟨1, .none, .none, (.lstore 0 3 (.t 0) (.t 1))⟩]) .ret))
noncomputable def F21b : Go.Code := Go.Proofs.Try.f21.body.getD .skip
theorem F21c : comp C [] F21b = some F21s.er := by kernel_rfl
theorem F21w : F21s.wf = true := by kernel_rfl
theorem F21d : Go.Proofs.Try.f21.body = some F21b := by kernel_rfl
@[simp] def F21q : List RV2 := [(.lcell 0 0 (.some 3))]
theorem F21r : compRVs C Go.Proofs.Try.f21.results.toList = some (F21q.map RV2.er) := by kernel_rfl
theorem F21e : Enters Go.Proofs.Try.prog 21 := enters_of Go.Proofs.Try.func21 (by kernel_rfl) (by kernel_rfl)

/-- scarf/doc.Group -- 0: box t1; 1: box t2 -/
def F22s : S2 :=
  (.seq (.ops 2 [⟨0, (.some 1), .none, (.lbox 0 34 (.t 0))⟩, ⟨1, (.some 2), .none, (.lalloc 1 34 [(.int .i64 (0)), (.str []), .nils])⟩]) (.seq (.ops 4 [⟨0, (.some 3), .none,
    (.lload 0 (.some 3) (.t 1))⟩, ⟨1, (.some 4), .none, (.lbsl 2 34 3 1 [(.int .i64 (0)), (.str []), .nils] [(0, (.t 3))] .false)⟩, ⟨2, (.some 5), .none,
    (.o (.s (.build [(.int .i64 (0)), (.str []), .nils] [(0, (1, (.k (.int .i64 (7))))), (2, (1, (.t 4)))])))⟩, ⟨3, .none, .none, (.lstore 1 3 (.t 2) (.t 5))⟩]) .ret))
noncomputable def F22b : Go.Code := Go.Proofs.Try.f22.body.getD .skip
theorem F22c : comp C [] F22b = some F22s.er := by kernel_rfl
theorem F22w : F22s.wf = true := by kernel_rfl
theorem F22d : Go.Proofs.Try.f22.body = some F22b := by kernel_rfl
@[simp] def F22q : List RV2 := [(.lcell 1 2 (.some 3))]
theorem F22r : compRVs C Go.Proofs.Try.f22.results.toList = some (F22q.map RV2.er) := by kernel_rfl
theorem F22e : Enters Go.Proofs.Try.prog 22 := enters_of Go.Proofs.Try.func22 (by kernel_rfl) (by kernel_rfl)

/-- scarf/doc.Nest -- 0: box t1; 1: box t2 -/
def F23s : S2 :=
  (.seq (.ops 2 [⟨0, (.some 1), .none, (.lbox 0 34 (.t 0))⟩, ⟨1, (.some 2), .none, (.lalloc 1 34 [(.int .i64 (0)), (.str []), .nils])⟩]) (.seq (.ops 4 [⟨0, (.some 3), .none,
    (.lload 0 (.some 3) (.t 1))⟩, ⟨1, (.some 4), .none, (.lbsl 2 34 3 1 [(.int .i64 (0)), (.str []), .nils] [(0, (.t 3))] .false)⟩, ⟨2, (.some 5), .none,
    (.o (.s (.build [(.int .i64 (0)), (.str []), .nils] [(0, (1, (.k (.int .i64 (5))))), (2, (1, (.t 4)))])))⟩, ⟨3, .none, .none, (.lstore 1 3 (.t 2) (.t 5))⟩]) .ret))
noncomputable def F23b : Go.Code := Go.Proofs.Try.f23.body.getD .skip
theorem F23c : comp C [] F23b = some F23s.er := by kernel_rfl
theorem F23w : F23s.wf = true := by kernel_rfl
theorem F23d : Go.Proofs.Try.f23.body = some F23b := by kernel_rfl
@[simp] def F23q : List RV2 := [(.lcell 1 2 (.some 3))]
theorem F23r : compRVs C Go.Proofs.Try.f23.results.toList = some (F23q.map RV2.er) := by kernel_rfl
theorem F23e : Enters Go.Proofs.Try.prog 23 := enters_of Go.Proofs.Try.func23 (by kernel_rfl) (by kernel_rfl)

/-- (scarf/doc.Doc).Flat -- 0: box t1; 1: box t6 -/
def F24l0 : S2 :=
  (.seq (.ops 1 [⟨0, (.some 11), .none, (.o (.s (.bin .lss (.t 10) (.t 9))))⟩]) (.seq (.cond (.t 11) .skip (.exit 0)) (.seq (.block 1 (.seq (.ops 4 [⟨0, (.some 12), .none,
    (.o (.s (.ia 2 (.t 8) (.t 10))))⟩, ⟨1, (.some 13), .none, (.o (.s (.load (.some 2) (.t 12))))⟩, ⟨2, (.some 6), .none, (.lalloc 1 45 [(.int .i64 (0)), (.str [])])⟩, ⟨3,
    .none, .none, (.lstore 1 2 (.t 6) (.t 13))⟩]) (.seq (.ops 2 [⟨0, (.some 14), .none, (.o (.s (.fa 0 (.t 6))))⟩, ⟨1, (.some 15), .none, (.lload 1 .none (.t 14))⟩])
    (.block 2 (.seq (.ops 2 [⟨0, (.some 17), .none, (.o (.s (.bin .eql (.t 15) (.k (.int .i64 (1))))))⟩, ⟨1, (.some 16), .none, (.o (.s (.mv (.t 17))))⟩]) (.cond (.t 16)
    (.ops 3 [⟨0, (.some 18), .none, (.o (.s (.fa 1 (.t 6))))⟩, ⟨1, (.some 19), .none, (.lload 1 .none (.t 18))⟩, ⟨2, (.some 20), .none, (.o (.call 37 [(.t 4),
    (.t 19)]))⟩]) (.seq (.ops 2 [⟨0, (.some 22), .none, (.o (.s (.bin .eql (.t 15) (.k (.int .i64 (2))))))⟩, ⟨1, (.some 21), .none, (.o (.s (.mv (.t 22))))⟩])
    (.cond (.t 21) (.ops 1 [⟨0, (.some 23), .none, (.o (.call 38 [(.t 4), (.k (.int .u8 (32)))]))⟩]) (.seq (.ops 2 [⟨0, (.some 25), .none, (.o (.s (.bin .eql (.t 15)
    (.k (.int .i64 (4))))))⟩, ⟨1, (.some 24), .none, (.o (.s (.mv (.t 25))))⟩]) (.cond (.t 24) (.seq (.ops 2 [⟨0, (.some 2), .none, (.o (.s (.mv (.k (.str [])))))⟩, ⟨1,
    (.some 3), .none, (.o (.s (.mv (.k (.bool .false)))))⟩]) .ret) .skip)))))))))) (.ops 2 [⟨0, (.some 26), .none, (.o (.s (.bin .add (.t 10) (.k (.int .i64 (1))))))⟩, ⟨1,
    (.some 10), .none, (.o (.s (.mv (.t 26))))⟩]))))
theorem F24l0w : F24l0.wf = true := by kernel_rfl
def F24s : S2 :=
  (.seq (.ops 3 [⟨0, (.some 1), .none, (.lbox 0 34 (.t 0))⟩, ⟨1, (.some 2), .none, (.o (.s (.mv (.k (.str [])))))⟩, ⟨2, (.some 3), .none,
    (.o (.s (.mv (.k (.bool .false)))))⟩]) (.seq (.ops 1 [⟨0, (.some 4), .none, (.o (.s (.alloc 64 [.nilp, .nils])))⟩]) (.seq (.seq (.ops 4 [⟨0, (.some 7), .none,
    (.lload 0 (.some 3) (.t 1))⟩, ⟨1, (.some 8), .none, (.o (.call 18 [(.t 7)]))⟩, ⟨2, (.some 9), .none, (.o (.s (.len (.t 8))))⟩, ⟨3, (.some 10), .none,
    (.o (.s (.mv (.k (.int .i64 (0))))))⟩]) (.block 0 (.loop F24l0))) (.seq (.ops 3 [⟨0, (.some 27), .none, (.o (.call 33 [(.t 4)]))⟩, ⟨1, (.some 2), .none,
    (.o (.s (.mv (.t 27))))⟩, ⟨2, (.some 3), .none, (.o (.s (.mv (.k (.bool .true)))))⟩]) .ret))))
noncomputable def F24b : Go.Code := Go.Proofs.Try.f24.body.getD .skip
theorem F24c : comp C [] F24b = some F24s.er := by kernel_rfl
theorem F24w : F24s.wf = true := by kernel_rfl
theorem F24d : Go.Proofs.Try.f24.body = some F24b := by kernel_rfl
@[simp] def F24q : List RV2 := [(.o (.tmp 2)), (.o (.tmp 3))]
theorem F24r : compRVs C Go.Proofs.Try.f24.results.toList = some (F24q.map RV2.er) := by kernel_rfl
theorem F24e : Enters Go.Proofs.Try.prog 24 := enters_of Go.Proofs.Try.func24 (by kernel_rfl) (by kernel_rfl)

/-- scarf/doc.Text -- 0: box t2 -/
def F25s : S2 :=
  (.seq (.ops 1 [⟨0, (.some 2), .none, (.lalloc 0 34 [(.int .i64 (0)), (.str []), .nils])⟩]) (.seq (.seq (.ops 2 [⟨0, (.some 3), .none, (.o (.s (.mv (.t 0))))⟩, ⟨1,
    (.some 4), .none, (.o (.s (.bin .eql (.t 3) (.k (.str [])))))⟩]) (.cond (.t 4) (.seq (.ops 2 [⟨0, (.some 5), .none, (.o (.s (.build [(.int .i64 (0)), (.str []), .nils]
    [])))⟩, ⟨1, .none, .none, (.lstore 0 3 (.t 2) (.t 5))⟩]) .ret) .skip)) (.seq (.ops 3 [⟨0, (.some 6), .none, (.o (.s (.mv (.t 0))))⟩, ⟨1, (.some 7), .none,
    (.o (.s (.build [(.int .i64 (0)), (.str []), .nils] [(0, (1, (.k (.int .i64 (1))))), (1, (1, (.t 6)))])))⟩, ⟨2, .none, .none, (.lstore 0 3 (.t 2) (.t 7))⟩]) .ret)))
noncomputable def F25b : Go.Code := Go.Proofs.Try.f25.body.getD .skip
theorem F25c : comp C [] F25b = some F25s.er := by kernel_rfl
theorem F25w : F25s.wf = true := by kernel_rfl
theorem F25d : Go.Proofs.Try.f25.body = some F25b := by kernel_rfl
@[simp] def F25q : List RV2 := [(.lcell 0 2 (.some 3))]
theorem F25r : compRVs C Go.Proofs.Try.f25.results.toList = some (F25q.map RV2.er) := by kernel_rfl
theorem F25e : Enters Go.Proofs.Try.prog 25 := enters_of Go.Proofs.Try.func25 (by kernel_rfl) (by kernel_rfl)

/-- scarf/doc.Soft -- 0: box t0 -/
def F26s : S2 :=
  (.seq (.ops 1 [⟨0, (.some 0), .none, (.lalloc 0 34 [(.int .i64 (0)), (.str []), .nils])⟩]) (.seq (.ops 2 [⟨0, (.some 1), .none, (.o (.s (.build [(.int .i64 (0)),
    (.str []), .nils] [(0, (1, (.k (.int .i64 (3)))))])))⟩, ⟨1, .none, .none, (.lstore 0 3 (.t 0) (.t 1))⟩]) .ret))
noncomputable def F26b : Go.Code := Go.Proofs.Try.f26.body.getD .skip
theorem F26c : comp C [] F26b = some F26s.er := by kernel_rfl
theorem F26w : F26s.wf = true := by kernel_rfl
theorem F26d : Go.Proofs.Try.f26.body = some F26b := by kernel_rfl
@[simp] def F26q : List RV2 := [(.lcell 0 0 (.some 3))]
theorem F26r : compRVs C Go.Proofs.Try.f26.results.toList = some (F26q.map RV2.er) := by kernel_rfl
theorem F26e : Enters Go.Proofs.Try.prog 26 := enters_of Go.Proofs.Try.func26 (by kernel_rfl) (by kernel_rfl)

/-- scarf/doc.Line -- 0: box t0 -/
def F27s : S2 :=
  (.seq (.ops 1 [⟨0, (.some 0), .none, (.lalloc 0 34 [(.int .i64 (0)), (.str []), .nils])⟩]) (.seq (.ops 2 [⟨0, (.some 1), .none, (.o (.s (.build [(.int .i64 (0)),
    (.str []), .nils] [(0, (1, (.k (.int .i64 (2)))))])))⟩, ⟨1, .none, .none, (.lstore 0 3 (.t 0) (.t 1))⟩]) .ret))
noncomputable def F27b : Go.Code := Go.Proofs.Try.f27.body.getD .skip
theorem F27c : comp C [] F27b = some F27s.er := by kernel_rfl
theorem F27w : F27s.wf = true := by kernel_rfl
theorem F27d : Go.Proofs.Try.f27.body = some F27b := by kernel_rfl
@[simp] def F27q : List RV2 := [(.lcell 0 0 (.some 3))]
theorem F27r : compRVs C Go.Proofs.Try.f27.results.toList = some (F27q.map RV2.er) := by kernel_rfl
theorem F27e : Enters Go.Proofs.Try.prog 27 := enters_of Go.Proofs.Try.func27 (by kernel_rfl) (by kernel_rfl)

/-- scarf/scarfref07.Size -- 0: box t2 -/
def F28l0 : S2 :=
  (.seq (.seq (.ops 10 [⟨0, (.some 7), .none, (.o (.s (.mv (.t 6))))⟩, ⟨1, (.some 8), .none, (.o (.s (.fa 2 (.t 2))))⟩, ⟨2, (.some 9), .none, (.lload 0 .none (.t 8))⟩, ⟨3,
    (.some 10), .none, (.o (.s (.len (.t 9))))⟩, ⟨4, (.some 11), .none, (.o (.s (.bin .lss (.t 7) (.t 10))))⟩, ⟨5, (.some 12), .none, (.o (.s (.mv (.t 11))))⟩, ⟨6,
    (.some 13), (.some (12, .true)), (.o (.s (.mv (.t 5))))⟩, ⟨7, (.some 14), (.some (12, .true)), (.o (.s (.mv (.t 1))))⟩, ⟨8, (.some 15), (.some (12, .true)),
    (.o (.s (.bin .lss (.t 13) (.t 14))))⟩, ⟨9, (.some 16), .none, (.o (.s (.pick (.t 12) (.t 15) (.k (.bool .false)))))⟩]) (.cond (.t 16) .skip (.exit 0)))
    (.seq (.block 1 (.ops 12 [⟨0, (.some 19), .none, (.o (.s (.mv (.t 5))))⟩, ⟨1, (.some 20), .none, (.o (.s (.fa 2 (.t 2))))⟩, ⟨2, (.some 21), .none,
    (.lload 0 .none (.t 20))⟩, ⟨3, (.some 22), .none, (.o (.s (.mv (.t 6))))⟩, ⟨4, (.some 23), .none, (.o (.s (.ia 3 (.t 21) (.t 22))))⟩, ⟨5, (.some 24), .none,
    (.o (.s (.load (.some 3) (.t 23))))⟩, ⟨6, (.some 25), .none, (.o (.s (.mv (.t 1))))⟩, ⟨7, (.some 26), .none, (.o (.s (.mv (.t 5))))⟩, ⟨8, (.some 27), .none,
    (.o (.s (.bin .sub (.t 25) (.t 26))))⟩, ⟨9, (.some 28), .none, (.o (.call 28 [(.t 24), (.t 27)]))⟩, ⟨10, (.some 29), .none, (.o (.s (.bin .add (.t 19) (.t 28))))⟩,
    ⟨11, (.some 5), .none, (.o (.s (.mv (.t 29))))⟩])) (.ops 3 [⟨0, (.some 17), .none, (.o (.s (.mv (.t 6))))⟩, ⟨1, (.some 18), .none, (.o (.s (.bin .add (.t 17)
    (.k (.int .i64 (1))))))⟩, ⟨2, (.some 6), .none, (.o (.s (.mv (.t 18))))⟩])))
theorem F28l0w : F28l0.wf = true := by kernel_rfl
def F28s : S2 :=
  (.seq (.ops 2 [⟨0, (.some 2), .none, (.lbox 0 27 (.t 0))⟩, ⟨1, (.some 4), .none, (.o (.s (.mv (.k (.int .i64 (0))))))⟩]) (.seq (.ops 1 [⟨0, (.some 5), .none,
    (.o (.s (.mv (.k (.int .i64 (1))))))⟩]) (.seq (.seq (.ops 1 [⟨0, (.some 6), .none, (.o (.s (.mv (.k (.int .i64 (0))))))⟩]) (.block 0 (.loop F28l0))) (.seq (.ops 2 [⟨0,
    (.some 30), .none, (.o (.s (.mv (.t 5))))⟩, ⟨1, (.some 4), .none, (.o (.s (.mv (.t 30))))⟩]) .ret))))
noncomputable def F28b : Go.Code := Go.Proofs.Try.f28.body.getD .skip
theorem F28c : comp C [] F28b = some F28s.er := by kernel_rfl
theorem F28w : F28s.wf = true := by kernel_rfl
theorem F28d : Go.Proofs.Try.f28.body = some F28b := by kernel_rfl
@[simp] def F28q : List RV2 := [(.o (.tmp 4))]
theorem F28r : compRVs C Go.Proofs.Try.f28.results.toList = some (F28q.map RV2.er) := by kernel_rfl
theorem F28e : Enters Go.Proofs.Try.prog 28 := enters_of Go.Proofs.Try.func28 (by kernel_rfl) (by kernel_rfl)

/-- scarf/layout.sums -- 0: box t6 -/
def F29l0 : S2 :=
  (.seq (.seq (.ops 2 [⟨0, (.some 79), .none, (.o (.s (.mv (.t 7))))⟩, ⟨1, (.some 80), .none, (.o (.s (.bin .geq (.t 79) (.k (.int .i64 (0))))))⟩]) (.cond (.t 80)
    .skip (.exit 3))) (.seq (.block 4 (.seq (.ops 5 [⟨0, (.some 83), .none, (.o (.s (.mv (.t 0))))⟩, ⟨1, (.some 84), .none, (.o (.s (.mv (.t 7))))⟩, ⟨2, (.some 85), .none,
    (.o (.s (.ia 2 (.t 83) (.t 84))))⟩, ⟨3, (.some 86), .none, (.o (.s (.fa 0 (.t 85))))⟩, ⟨4, (.some 87), .none, (.o (.s (.load .none (.t 86))))⟩])
    (.block 5 (.seq (.seq (.ops 2 [⟨0, (.some 97), .none, (.o (.s (.bin .eql (.t 87) (.k (.int .i64 (2))))))⟩, ⟨1, (.some 96), .none, (.o (.s (.mv (.t 97))))⟩])
    (.cond (.t 96) .skip (.seq (.ops 2 [⟨0, (.some 98), .none, (.o (.s (.bin .eql (.t 87) (.k (.int .i64 (3))))))⟩, ⟨1, (.some 96), .none, (.o (.s (.mv (.t 98))))⟩])
    (.cond (.t 96) .skip (.ops 2 [⟨0, (.some 99), .none, (.o (.s (.bin .eql (.t 87) (.k (.int .i64 (4))))))⟩, ⟨1, (.some 96), .none, (.o (.s (.mv (.t 99))))⟩])))))
    (.cond (.t 96) .skip (.seq (.ops 2 [⟨0, (.some 101), .none, (.o (.s (.bin .eql (.t 87) (.k (.int .i64 (1))))))⟩, ⟨1, (.some 100), .none, (.o (.s (.mv (.t 101))))⟩])
    (.cond (.t 100) (.dops 16 [(⟨0, (.some 102), .none, (.o (.s (.mv (.t 4))))⟩, (.mk 0 [])), (⟨1, (.some 103), .none, (.o (.s (.mv (.t 7))))⟩, (.mk 0 [])), (⟨2,
    (.some 104), .none, (.o (.s (.mv (.t 4))))⟩, (.mk 0 [])), (⟨3, (.some 105), .none, (.o (.s (.mv (.t 7))))⟩, (.mk 0 [])), (⟨4, (.some 106), .none,
    (.o (.s (.bin .add (.t 105) (.k (.int .i64 (1))))))⟩, (.mk 0 [])), (⟨7, (.some 109), .none, (.o (.s (.mv (.t 0))))⟩, (.mk 0 [])), (⟨8, (.some 110), .none,
    (.o (.s (.mv (.t 7))))⟩, (.mk 0 [])), (⟨5, (.some 107), .none, (.o (.s (.ia 1 (.t 104) (.t 106))))⟩, (.mk 1 [])), (⟨6, (.some 108), .none,
    (.o (.s (.load .none (.t 107))))⟩, (.mk 1 [])), (⟨9, (.some 111), .none, (.o (.s (.ia 2 (.t 109) (.t 110))))⟩, (.mk 1 [])), (⟨10, (.some 112), .none,
    (.o (.s (.fa 1 (.t 111))))⟩, (.mk 0 [])), (⟨11, (.some 113), .none, (.o (.s (.load .none (.t 112))))⟩, (.mk 1 [])), (⟨12, (.some 114), .none,
    (.o (.call 10 [(.t 113)]))⟩, (.mk 0 [])), (⟨13, (.some 115), .none, (.o (.s (.bin .add (.t 108) (.t 114))))⟩, (.mk 0 [])), (⟨14, (.some 116), .none,
    (.o (.s (.ia 1 (.t 102) (.t 103))))⟩, (.mk 1 [])), (⟨15, .none, .none, (.o (.s (.store 1 (.t 116) (.t 115))))⟩, (.mk 2 []))]) (.ops 9 [⟨0, (.some 88), .none,
    (.o (.s (.mv (.t 4))))⟩, ⟨1, (.some 89), .none, (.o (.s (.mv (.t 7))))⟩, ⟨2, (.some 90), .none, (.o (.s (.mv (.t 4))))⟩, ⟨3, (.some 91), .none,
    (.o (.s (.mv (.t 7))))⟩, ⟨4, (.some 92), .none, (.o (.s (.bin .add (.t 91) (.k (.int .i64 (1))))))⟩, ⟨5, (.some 93), .none, (.o (.s (.ia 1 (.t 90) (.t 92))))⟩, ⟨6,
    (.some 94), .none, (.o (.s (.load .none (.t 93))))⟩, ⟨7, (.some 95), .none, (.o (.s (.ia 1 (.t 88) (.t 89))))⟩, ⟨8, .none, .none, (.o (.s (.store 1 (.t 95)
    (.t 94))))⟩])))))))) (.ops 3 [⟨0, (.some 81), .none, (.o (.s (.mv (.t 7))))⟩, ⟨1, (.some 82), .none, (.o (.s (.bin .sub (.t 81) (.k (.int .i64 (1))))))⟩, ⟨2,
    (.some 7), .none, (.o (.s (.mv (.t 82))))⟩])))
theorem F29l0w : F29l0.wf = true := by kernel_rfl
def F29l1 : S2 :=
  (.seq (.ops 1 [⟨0, (.some 23), .none, (.o (.s (.bin .lss (.t 22) (.t 21))))⟩]) (.seq (.cond (.t 23) .skip (.exit 0)) (.seq (.block 1 (.seq (.ops 6 [⟨0, (.some 24), .none,
    (.o (.s (.mv (.t 22))))⟩, ⟨1, (.some 25), .none, (.o (.s (.ia 2 (.t 20) (.t 22))))⟩, ⟨2, (.some 26), .none, (.o (.s (.load (.some 2) (.t 25))))⟩, ⟨3, (.some 6), .none,
    (.lalloc 0 45 [(.int .i64 (0)), (.str [])])⟩, ⟨4, (.some 5), .none, (.o (.s (.mv (.t 24))))⟩, ⟨5, .none, .none, (.lstore 0 2 (.t 6) (.t 26))⟩]) (.seq (.dops 18 [(⟨0,
    (.some 27), .none, (.o (.s (.mv (.t 2))))⟩, (.mk 0 [])), (⟨1, (.some 28), .none, (.o (.s (.mv (.t 5))))⟩, (.mk 0 [])), (⟨2, (.some 29), .none,
    (.o (.s (.bin .add (.t 28) (.k (.int .i64 (1))))))⟩, (.mk 0 [])), (⟨3, (.some 30), .none, (.o (.s (.mv (.t 3))))⟩, (.mk 0 [])), (⟨4, (.some 31), .none,
    (.o (.s (.mv (.t 5))))⟩, (.mk 0 [])), (⟨5, (.some 32), .none, (.o (.s (.bin .add (.t 31) (.k (.int .i64 (1))))))⟩, (.mk 0 [])), (⟨6, (.some 33), .none,
    (.o (.s (.mv (.t 2))))⟩, (.mk 0 [])), (⟨7, (.some 34), .none, (.o (.s (.mv (.t 5))))⟩, (.mk 0 [])), (⟨10, (.some 37), .none, (.o (.s (.mv (.t 3))))⟩, (.mk 0 [])),
    (⟨11, (.some 38), .none, (.o (.s (.mv (.t 5))))⟩, (.mk 0 [])), (⟨8, (.some 35), .none, (.o (.s (.ia 1 (.t 33) (.t 34))))⟩, (.mk 1 [])), (⟨9, (.some 36), .none,
    (.o (.s (.load .none (.t 35))))⟩, (.mk 1 [])), (⟨12, (.some 39), .none, (.o (.s (.ia 1 (.t 37) (.t 38))))⟩, (.mk 1 [])), (⟨13, (.some 40), .none,
    (.o (.s (.load .none (.t 39))))⟩, (.mk 1 [])), (⟨14, (.some 41), .none, (.o (.s (.ia 1 (.t 27) (.t 29))))⟩, (.mk 1 [])), (⟨15, .none, .none, (.o (.s (.store 1 (.t 41)
    (.t 36))))⟩, (.mk 2 [])), (⟨16, (.some 42), .none, (.o (.s (.ia 1 (.t 30) (.t 32))))⟩, (.mk 1 [])), (⟨17, .none, .none, (.o (.s (.store 1 (.t 42) (.t 40))))⟩,
    (.mk 2 []))]) (.seq (.ops 2 [⟨0, (.some 43), .none, (.o (.s (.fa 0 (.t 6))))⟩, ⟨1, (.some 44), .none, (.lload 0 .none (.t 43))⟩]) (.block 2 (.seq (.ops 2 [⟨0,
    (.some 46), .none, (.o (.s (.bin .eql (.t 44) (.k (.int .i64 (1))))))⟩, ⟨1, (.some 45), .none, (.o (.s (.mv (.t 46))))⟩]) (.cond (.t 45) (.dops 11 [(⟨0, (.some 47),
    .none, (.o (.s (.mv (.t 2))))⟩, (.mk 0 [])), (⟨1, (.some 48), .none, (.o (.s (.mv (.t 5))))⟩, (.mk 0 [])), (⟨2, (.some 49), .none, (.o (.s (.bin .add (.t 48)
    (.k (.int .i64 (1))))))⟩, (.mk 0 [])), (⟨5, (.some 52), .none, (.o (.s (.fa 1 (.t 6))))⟩, (.mk 0 [])), (⟨3, (.some 50), .none, (.o (.s (.ia 1 (.t 47) (.t 49))))⟩,
    (.mk 1 [])), (⟨4, (.some 51), .none, (.o (.s (.load .none (.t 50))))⟩, (.mk 1 [])), (⟨6, (.some 53), .none, (.lload 0 .none (.t 52))⟩, (.mk 1 [])), (⟨7, (.some 54),
    .none, (.o (.call 10 [(.t 53)]))⟩, (.mk 0 [])), (⟨8, (.some 55), .none, (.o (.s (.bin .add (.t 51) (.t 54))))⟩, (.mk 0 [])), (⟨9, (.some 56), .none,
    (.o (.s (.ia 1 (.t 47) (.t 49))))⟩, (.mk 1 [])), (⟨10, .none, .none, (.o (.s (.store 1 (.t 56) (.t 55))))⟩, (.mk 2 []))]) (.seq (.ops 2 [⟨0, (.some 58), .none,
    (.o (.s (.bin .eql (.t 44) (.k (.int .i64 (2))))))⟩, ⟨1, (.some 57), .none, (.o (.s (.mv (.t 58))))⟩]) (.cond (.t 57) (.ops 8 [⟨0, (.some 59), .none,
    (.o (.s (.mv (.t 2))))⟩, ⟨1, (.some 60), .none, (.o (.s (.mv (.t 5))))⟩, ⟨2, (.some 61), .none, (.o (.s (.bin .add (.t 60) (.k (.int .i64 (1))))))⟩, ⟨3, (.some 62),
    .none, (.o (.s (.ia 1 (.t 59) (.t 61))))⟩, ⟨4, (.some 63), .none, (.o (.s (.load .none (.t 62))))⟩, ⟨5, (.some 64), .none, (.o (.s (.bin .add (.t 63)
    (.k (.int .i64 (1))))))⟩, ⟨6, (.some 65), .none, (.o (.s (.ia 1 (.t 59) (.t 61))))⟩, ⟨7, .none, .none, (.o (.s (.store 1 (.t 65) (.t 64))))⟩]) (.seq (.ops 2 [⟨0,
    (.some 67), .none, (.o (.s (.bin .eql (.t 44) (.k (.int .i64 (4))))))⟩, ⟨1, (.some 66), .none, (.o (.s (.mv (.t 67))))⟩]) (.cond (.t 66) (.ops 8 [⟨0, (.some 68),
    .none, (.o (.s (.mv (.t 3))))⟩, ⟨1, (.some 69), .none, (.o (.s (.mv (.t 5))))⟩, ⟨2, (.some 70), .none, (.o (.s (.bin .add (.t 69) (.k (.int .i64 (1))))))⟩, ⟨3,
    (.some 71), .none, (.o (.s (.ia 1 (.t 68) (.t 70))))⟩, ⟨4, (.some 72), .none, (.o (.s (.load .none (.t 71))))⟩, ⟨5, (.some 73), .none, (.o (.s (.bin .add (.t 72)
    (.k (.int .i64 (1))))))⟩, ⟨6, (.some 74), .none, (.o (.s (.ia 1 (.t 68) (.t 70))))⟩, ⟨7, .none, .none, (.o (.s (.store 1 (.t 74) (.t 73))))⟩]) .skip)))))))))))
    (.ops 2 [⟨0, (.some 75), .none, (.o (.s (.bin .add (.t 22) (.k (.int .i64 (1))))))⟩, ⟨1, (.some 22), .none, (.o (.s (.mv (.t 75))))⟩]))))
theorem F29l1w : F29l1.wf = true := by kernel_rfl
def F29s : S2 :=
  (.seq (.ops 3 [⟨0, (.some 2), .none, (.o (.s (.mv (.k .nils))))⟩, ⟨1, (.some 3), .none, (.o (.s (.mv (.k .nils))))⟩, ⟨2, (.some 4), .none, (.o (.s (.mv (.k .nils))))⟩])
    (.seq (.dops 15 [(⟨0, (.some 8), .none, (.o (.s (.mv (.t 0))))⟩, (.mk 0 [])), (⟨1, (.some 9), .none, (.o (.s (.len (.t 8))))⟩, (.mk 0 [])), (⟨2, (.some 10), .none,
    (.o (.s (.bin .add (.t 9) (.k (.int .i64 (1))))))⟩, (.mk 0 [])), (⟨4, (.some 12), .none, (.o (.s (.mv (.t 0))))⟩, (.mk 0 [])), (⟨5, (.some 13), .none,
    (.o (.s (.len (.t 12))))⟩, (.mk 0 [])), (⟨6, (.some 14), .none, (.o (.s (.bin .add (.t 13) (.k (.int .i64 (1))))))⟩, (.mk 0 [])), (⟨8, (.some 16), .none,
    (.o (.s (.mv (.t 0))))⟩, (.mk 0 [])), (⟨9, (.some 17), .none, (.o (.s (.len (.t 16))))⟩, (.mk 0 [])), (⟨10, (.some 18), .none, (.o (.s (.bin .add (.t 17)
    (.k (.int .i64 (1))))))⟩, (.mk 0 [])), (⟨3, (.some 11), .none, (.o (.s (.mks 3 1 8 [(.int .i64 (0))] (.t 10) (.t 10) .true)))⟩, (.mk 0 [3])), (⟨12, (.some 2), .none,
    (.o (.s (.mv (.t 11))))⟩, (.mk 0 [])), (⟨7, (.some 15), .none, (.o (.s (.mks 3 1 8 [(.int .i64 (0))] (.t 14) (.t 14) .true)))⟩, (.mk 0 [7])), (⟨13, (.some 3), .none,
    (.o (.s (.mv (.t 15))))⟩, (.mk 0 [])), (⟨11, (.some 19), .none, (.o (.s (.mks 3 1 8 [(.int .i64 (0))] (.t 18) (.t 18) .true)))⟩, (.mk 0 [11])), (⟨14, (.some 4), .none,
    (.o (.s (.mv (.t 19))))⟩, (.mk 0 []))]) (.seq (.seq (.ops 3 [⟨0, (.some 20), .none, (.o (.s (.mv (.t 0))))⟩, ⟨1, (.some 21), .none, (.o (.s (.len (.t 20))))⟩, ⟨2,
    (.some 22), .none, (.o (.s (.mv (.k (.int .i64 (0))))))⟩]) (.block 0 (.loop F29l1))) (.seq (.seq (.ops 4 [⟨0, (.some 76), .none, (.o (.s (.mv (.t 0))))⟩, ⟨1,
    (.some 77), .none, (.o (.s (.len (.t 76))))⟩, ⟨2, (.some 78), .none, (.o (.s (.bin .sub (.t 77) (.k (.int .i64 (1))))))⟩, ⟨3, (.some 7), .none,
    (.o (.s (.mv (.t 78))))⟩]) (.block 3 (.loop F29l0))) (.seq (.ops 6 [⟨0, (.some 117), .none, (.o (.s (.mv (.t 2))))⟩, ⟨1, (.some 118), .none, (.o (.s (.mv (.t 3))))⟩,
    ⟨2, (.some 119), .none, (.o (.s (.mv (.t 4))))⟩, ⟨3, (.some 2), .none, (.o (.s (.mv (.t 117))))⟩, ⟨4, (.some 3), .none, (.o (.s (.mv (.t 118))))⟩, ⟨5, (.some 4),
    .none, (.o (.s (.mv (.t 119))))⟩]) .ret)))))
noncomputable def F29b : Go.Code := Go.Proofs.Try.f29.body.getD .skip
theorem F29c : comp C [(1, 3), (1, 7), (1, 11)] F29b = some F29s.er := by kernel_rfl
theorem F29w : F29s.wf = true := by kernel_rfl
theorem F29d : Go.Proofs.Try.f29.body = some F29b := by kernel_rfl
@[simp] def F29q : List RV2 := [(.o (.tmp 2)), (.o (.tmp 3)), (.o (.tmp 4))]
theorem F29r : compRVs C Go.Proofs.Try.f29.results.toList = some (F29q.map RV2.er) := by kernel_rfl
theorem F29e : Enters Go.Proofs.Try.prog 29 := enters_of Go.Proofs.Try.func29 (by kernel_rfl) (by kernel_rfl)

/-- scarf/layout.ends -- 0: box t6; 1: stack t4 t21 t24 t28 t29 t36 t37 t40 -/
def F30l0 : S2 :=
  (.seq (.ops 1 [⟨0, (.some 13), .none, (.o (.s (.bin .lss (.t 12) (.t 11))))⟩]) (.seq (.cond (.t 13) .skip (.exit 0)) (.seq (.block 1 (.seq (.ops 6 [⟨0, (.some 14), .none,
    (.o (.s (.mv (.t 12))))⟩, ⟨1, (.some 15), .none, (.o (.s (.ia 2 (.t 10) (.t 12))))⟩, ⟨2, (.some 16), .none, (.o (.s (.load (.some 2) (.t 15))))⟩, ⟨3, (.some 6), .none,
    (.lalloc 0 45 [(.int .i64 (0)), (.str [])])⟩, ⟨4, (.some 5), .none, (.o (.s (.mv (.t 14))))⟩, ⟨5, .none, .none, (.lstore 0 2 (.t 6) (.t 16))⟩]) (.seq (.ops 2 [⟨0,
    (.some 17), .none, (.o (.s (.fa 0 (.t 6))))⟩, ⟨1, (.some 18), .none, (.lload 0 .none (.t 17))⟩]) (.block 2 (.seq (.ops 2 [⟨0, (.some 20), .none,
    (.o (.s (.bin .eql (.t 18) (.k (.int .i64 (7))))))⟩, ⟨1, (.some 19), .none, (.o (.s (.mv (.t 20))))⟩]) (.cond (.t 19) (.ops 5 [⟨0, (.some 21), .none,
    (.o (.s (.mv (.t 4))))⟩, ⟨1, (.some 22), .none, (.o (.s (.mv (.t 5))))⟩, ⟨2, (.some 23), .none, (.lbsl 2 3 1 1 [(.int .i64 (0))] [(0, (.t 22))] .false)⟩, ⟨3,
    (.some 24), .none, (.lgrow 1 3 1 8 (.t 21) (.t 23))⟩, ⟨4, (.some 4), .none, (.o (.s (.mv (.t 24))))⟩]) (.seq (.ops 2 [⟨0, (.some 26), .none, (.o (.s (.bin .eql (.t 18)
    (.k (.int .i64 (8))))))⟩, ⟨1, (.some 25), .none, (.o (.s (.mv (.t 26))))⟩]) (.cond (.t 25) (.seq (.ops 10 [⟨0, (.some 27), .none, (.o (.s (.mv (.t 3))))⟩, ⟨1,
    (.some 28), .none, (.o (.s (.mv (.t 4))))⟩, ⟨2, (.some 29), .none, (.o (.s (.mv (.t 4))))⟩, ⟨3, (.some 30), .none, (.o (.s (.len (.t 29))))⟩, ⟨4, (.some 31), .none,
    (.o (.s (.bin .sub (.t 30) (.k (.int .i64 (1))))))⟩, ⟨5, (.some 32), .none, (.lia 1 1 (.t 28) (.t 31))⟩, ⟨6, (.some 33), .none, (.lload 1 .none (.t 32))⟩, ⟨7,
    (.some 34), .none, (.o (.s (.mv (.t 5))))⟩, ⟨8, (.some 35), .none, (.o (.s (.ia 1 (.t 27) (.t 33))))⟩, ⟨9, .none, .none, (.o (.s (.store 1 (.t 35) (.t 34))))⟩])
    (.ops 6 [⟨0, (.some 36), .none, (.o (.s (.mv (.t 4))))⟩, ⟨1, (.some 37), .none, (.o (.s (.mv (.t 4))))⟩, ⟨2, (.some 38), .none, (.o (.s (.len (.t 37))))⟩, ⟨3,
    (.some 39), .none, (.o (.s (.bin .sub (.t 38) (.k (.int .i64 (1))))))⟩, ⟨4, (.some 40), .none, (.lsub 1 1 (.t 36) .none (.some (.t 39)))⟩, ⟨5, (.some 4), .none,
    (.o (.s (.mv (.t 40))))⟩])) .skip)))))))) (.ops 2 [⟨0, (.some 41), .none, (.o (.s (.bin .add (.t 12) (.k (.int .i64 (1))))))⟩, ⟨1, (.some 12), .none,
    (.o (.s (.mv (.t 41))))⟩]))))
theorem F30l0w : F30l0.wf = true := by kernel_rfl
def F30s : S2 :=
  (.seq (.ops 1 [⟨0, (.some 2), .none, (.o (.s (.mv (.k .nils))))⟩]) (.seq (.ops 4 [⟨0, (.some 7), .none, (.o (.s (.mv (.t 0))))⟩, ⟨1, (.some 8), .none,
    (.o (.s (.len (.t 7))))⟩, ⟨2, (.some 9), .none, (.o (.s (.mks 3 1 8 [(.int .i64 (0))] (.t 8) (.t 8) .true)))⟩, ⟨3, (.some 3), .none, (.o (.s (.mv (.t 9))))⟩])
    (.seq (.ops 1 [⟨0, (.some 4), .none, (.o (.s (.mv (.k .nils))))⟩]) (.seq (.seq (.ops 3 [⟨0, (.some 10), .none, (.o (.s (.mv (.t 0))))⟩, ⟨1, (.some 11), .none,
    (.o (.s (.len (.t 10))))⟩, ⟨2, (.some 12), .none, (.o (.s (.mv (.k (.int .i64 (0))))))⟩]) (.block 0 (.loop F30l0))) (.seq (.ops 2 [⟨0, (.some 42), .none,
    (.o (.s (.mv (.t 3))))⟩, ⟨1, (.some 2), .none, (.o (.s (.mv (.t 42))))⟩]) .ret)))))
noncomputable def F30b : Go.Code := Go.Proofs.Try.f30.body.getD .skip
theorem F30c : comp C [(1, 2), (8, 3)] F30b = some F30s.er := by kernel_rfl
theorem F30w : F30s.wf = true := by kernel_rfl
theorem F30d : Go.Proofs.Try.f30.body = some F30b := by kernel_rfl
@[simp] def F30q : List RV2 := [(.o (.tmp 2))]
theorem F30r : compRVs C Go.Proofs.Try.f30.results.toList = some (F30q.map RV2.er) := by kernel_rfl
theorem F30e : Enters Go.Proofs.Try.prog 30 := enters_of Go.Proofs.Try.func30 (by kernel_rfl) (by kernel_rfl)

/-- (*scarf/layout.page).put --  -/
def F31s : S2 :=
  (.seq (.dopc 9 [(⟨0, (.some 4), .none, (.o (.s (.mv (.t 0))))⟩, (.mk 0 [])), (⟨1, (.some 5), .none, (.o (.s (.nilck (.t 4))))⟩, (.mk 0 [])), (⟨2, (.some 6), .none,
    (.o (.s (.fa 0 (.t 5))))⟩, (.mk 0 [])), (⟨3, (.some 7), .none, (.o (.s (.mv (.t 0))))⟩, (.mk 0 [])), (⟨4, (.some 8), .none, (.o (.s (.nilck (.t 7))))⟩, (.mk 0 [])),
    (⟨5, (.some 9), .none, (.o (.s (.fa 4 (.t 8))))⟩, (.mk 0 [])), (⟨6, (.some 10), .none, (.o (.s (.load .none (.t 9))))⟩, (.mk 1 [])), (⟨7, (.some 11), .none,
    (.o (.call 39 [(.k (.str [9])), (.t 10)]))⟩, (.mk 0 [])), (⟨8, (.some 12), .none, (.o (.icall 37 [(.t 6), (.t 11)]))⟩, (.mk 0 []))]) (.seq (.ops 4 [⟨0, (.some 13),
    .none, (.o (.s (.mv (.t 0))))⟩, ⟨1, (.some 14), .none, (.o (.s (.nilck (.t 13))))⟩, ⟨2, (.some 15), .none, (.o (.s (.fa 4 (.t 14))))⟩, ⟨3, .none, .none,
    (.o (.s (.store 1 (.t 15) (.k (.int .i64 (0))))))⟩]) (.seq (.ops 5 [⟨0, (.some 16), .none, (.o (.s (.mv (.t 0))))⟩, ⟨1, (.some 17), .none, (.o (.s (.nilck (.t 16))))⟩,
    ⟨2, (.some 18), .none, (.o (.s (.fa 0 (.t 17))))⟩, ⟨3, (.some 19), .none, (.o (.s (.mv (.t 1))))⟩, ⟨4, (.some 20), .none, (.o (.call 37 [(.t 18), (.t 19)]))⟩])
    (.dops 10 [(⟨0, (.some 21), .none, (.o (.s (.mv (.t 0))))⟩, (.mk 0 [])), (⟨1, (.some 22), .none, (.o (.s (.nilck (.t 21))))⟩, (.mk 0 [])), (⟨2, (.some 23), .none,
    (.o (.s (.fa 2 (.t 22))))⟩, (.mk 0 [])), (⟨4, (.some 25), .none, (.o (.s (.mv (.t 1))))⟩, (.mk 0 [])), (⟨5, (.some 26), .none, (.o (.call 10 [(.t 25)]))⟩, (.mk 0 [])),
    (⟨3, (.some 24), .none, (.o (.s (.load .none (.t 23))))⟩, (.mk 1 [])), (⟨6, (.some 27), .none, (.o (.s (.bin .add (.t 24) (.t 26))))⟩, (.mk 0 [])), (⟨7, (.some 28),
    .none, (.o (.s (.nilck (.t 21))))⟩, (.mk 0 [])), (⟨8, (.some 29), .none, (.o (.s (.fa 2 (.t 28))))⟩, (.mk 0 [])), (⟨9, .none, .none, (.o (.s (.store 1 (.t 29)
    (.t 27))))⟩, (.mk 2 []))]))))
noncomputable def F31b : Go.Code := Go.Proofs.Try.f31.body.getD .skip
theorem F31c : comp C [(0, 8)] F31b = some F31s.er := by kernel_rfl
theorem F31w : F31s.wf = true := by kernel_rfl
theorem F31d : Go.Proofs.Try.f31.body = some F31b := by kernel_rfl
@[simp] def F31q : List RV2 := []
theorem F31r : compRVs C Go.Proofs.Try.f31.results.toList = some (F31q.map RV2.er) := by kernel_rfl
theorem F31e : Enters Go.Proofs.Try.prog 31 := enters_of Go.Proofs.Try.func31 (by kernel_rfl) (by kernel_rfl)

/-- (*scarf/layout.page).newline --  -/
def F32s : S2 :=
  (.seq (.ops 4 [⟨0, (.some 2), .none, (.o (.s (.mv (.t 0))))⟩, ⟨1, (.some 3), .none, (.o (.s (.nilck (.t 2))))⟩, ⟨2, (.some 4), .none, (.o (.s (.fa 0 (.t 3))))⟩, ⟨3,
    (.some 5), .none, (.o (.call 38 [(.t 4), (.k (.int .u8 (10)))]))⟩]) (.dops 17 [(⟨0, (.some 6), .none, (.o (.s (.mv (.t 0))))⟩, (.mk 0 [])), (⟨1, (.some 7), .none,
    (.o (.s (.mv (.t 0))))⟩, (.mk 0 [])), (⟨2, (.some 8), .none, (.o (.s (.mv (.t 0))))⟩, (.mk 0 [])), (⟨3, (.some 9), .none, (.o (.s (.nilck (.t 8))))⟩, (.mk 0 [])), (⟨4,
    (.some 10), .none, (.o (.s (.fa 3 (.t 9))))⟩, (.mk 0 [])), (⟨7, (.some 13), .none, (.o (.s (.mv (.t 0))))⟩, (.mk 0 [])), (⟨8, (.some 14), .none,
    (.o (.s (.nilck (.t 13))))⟩, (.mk 0 [])), (⟨9, (.some 15), .none, (.o (.s (.fa 3 (.t 14))))⟩, (.mk 0 [])), (⟨5, (.some 11), .none, (.o (.s (.load .none (.t 10))))⟩,
    (.mk 1 [])), (⟨6, (.some 12), .none, (.o (.s (.bin .mul (.k (.int .i64 (4))) (.t 11))))⟩, (.mk 0 [])), (⟨10, (.some 16), .none, (.o (.s (.load .none (.t 15))))⟩,
    (.mk 1 [])), (⟨11, (.some 17), .none, (.o (.s (.nilck (.t 6))))⟩, (.mk 0 [])), (⟨12, (.some 18), .none, (.o (.s (.fa 2 (.t 17))))⟩, (.mk 0 [])), (⟨13, .none, .none,
    (.o (.s (.store 1 (.t 18) (.t 12))))⟩, (.mk 2 [])), (⟨14, (.some 19), .none, (.o (.s (.nilck (.t 7))))⟩, (.mk 0 [])), (⟨15, (.some 20), .none,
    (.o (.s (.fa 4 (.t 19))))⟩, (.mk 0 [])), (⟨16, .none, .none, (.o (.s (.store 1 (.t 20) (.t 16))))⟩, (.mk 2 []))]))
noncomputable def F32b : Go.Code := Go.Proofs.Try.f32.body.getD .skip
theorem F32c : comp C [] F32b = some F32s.er := by kernel_rfl
theorem F32w : F32s.wf = true := by kernel_rfl
theorem F32d : Go.Proofs.Try.f32.body = some F32b := by kernel_rfl
@[simp] def F32q : List RV2 := []
theorem F32r : compRVs C Go.Proofs.Try.f32.results.toList = some (F32q.map RV2.er) := by kernel_rfl
theorem F32e : Enters Go.Proofs.Try.prog 32 := enters_of Go.Proofs.Try.func32 (by kernel_rfl) (by kernel_rfl)

/-- (*strings.Builder).String --  -/
def F33s : S2 :=
  (.seq (.ops 1 [⟨0, (.some 2), .none, (.o (.s (.mv (.k (.str [])))))⟩]) (.seq (.dops 12 [(⟨0, (.some 3), .none, (.o (.s (.mv (.t 0))))⟩, (.mk 0 [])), (⟨1, (.some 4), .none,
    (.o (.s (.nilck (.t 3))))⟩, (.mk 0 [])), (⟨2, (.some 5), .none, (.o (.s (.fa 1 (.t 4))))⟩, (.mk 0 [])), (⟨5, (.some 8), .none, (.o (.s (.mv (.t 0))))⟩, (.mk 0 [])),
    (⟨6, (.some 9), .none, (.o (.s (.nilck (.t 8))))⟩, (.mk 0 [])), (⟨7, (.some 10), .none, (.o (.s (.fa 1 (.t 9))))⟩, (.mk 0 [])), (⟨3, (.some 6), .none,
    (.o (.s (.load .none (.t 5))))⟩, (.mk 1 [])), (⟨4, (.some 7), .none, (.o (.s (.sdata (.t 6))))⟩, (.mk 0 [])), (⟨8, (.some 11), .none, (.o (.s (.load .none (.t 10))))⟩,
    (.mk 1 [])), (⟨9, (.some 12), .none, (.o (.s (.len (.t 11))))⟩, (.mk 0 [])), (⟨10, (.some 13), .none, (.o (.s (.ustr 5 (.t 7) (.t 12))))⟩, (.mk 1 [])), (⟨11,
    (.some 2), .none, (.o (.s (.mv (.t 13))))⟩, (.mk 0 []))]) .ret))
noncomputable def F33b : Go.Code := Go.Proofs.Try.f33.body.getD .skip
theorem F33c : comp C [] F33b = some F33s.er := by kernel_rfl
theorem F33w : F33s.wf = true := by kernel_rfl
theorem F33d : Go.Proofs.Try.f33.body = some F33b := by kernel_rfl
@[simp] def F33q : List RV2 := [(.o (.tmp 2))]
theorem F33r : compRVs C Go.Proofs.Try.f33.results.toList = some (F33q.map RV2.er) := by kernel_rfl
theorem F33e : Enters Go.Proofs.Try.prog 33 := enters_of Go.Proofs.Try.func33 (by kernel_rfl) (by kernel_rfl)

/-- scarf/scarfref08.fits --  -/
def F34l0 : S2 :=
  (.seq (.seq (.ops 4 [⟨0, (.some 53), .none, (.o (.s (.mv (.t 11))))⟩, ⟨1, (.some 54), .none, (.o (.s (.mv (.t 0))))⟩, ⟨2, (.some 55), .none, (.o (.s (.len (.t 54))))⟩, ⟨3,
    (.some 56), .none, (.o (.s (.bin .lss (.t 53) (.t 55))))⟩]) (.cond (.t 56) .skip (.exit 3))) (.seq (.block 4 (.seq (.seq (.ops 14 [⟨0, (.some 59), .none,
    (.o (.s (.mv (.t 0))))⟩, ⟨1, (.some 60), .none, (.o (.s (.mv (.t 11))))⟩, ⟨2, (.some 61), .none, (.o (.s (.ia 2 (.t 59) (.t 60))))⟩, ⟨3, (.some 62), .none,
    (.o (.s (.fa 0 (.t 61))))⟩, ⟨4, (.some 63), .none, (.o (.s (.load .none (.t 62))))⟩, ⟨5, (.some 64), .none, (.o (.s (.bin .geq (.t 63) (.k (.int .i64 (2))))))⟩, ⟨6,
    (.some 65), .none, (.o (.s (.mv (.t 64))))⟩, ⟨7, (.some 66), (.some (65, .true)), (.o (.s (.mv (.t 0))))⟩, ⟨8, (.some 67), (.some (65, .true)),
    (.o (.s (.mv (.t 11))))⟩, ⟨9, (.some 68), (.some (65, .true)), (.o (.s (.ia 2 (.t 66) (.t 67))))⟩, ⟨10, (.some 69), (.some (65, .true)), (.o (.s (.fa 0 (.t 68))))⟩,
    ⟨11, (.some 70), (.some (65, .true)), (.o (.s (.load .none (.t 69))))⟩, ⟨12, (.some 71), (.some (65, .true)), (.o (.s (.bin .leq (.t 70) (.k (.int .i64 (4))))))⟩, ⟨13,
    (.some 72), .none, (.o (.s (.pick (.t 65) (.t 71) (.k (.bool .false)))))⟩]) (.cond (.t 72) (.exit 3) .skip)) (.seq (.ops 6 [⟨0, (.some 73), .none,
    (.o (.s (.mv (.t 0))))⟩, ⟨1, (.some 74), .none, (.o (.s (.mv (.t 11))))⟩, ⟨2, (.some 75), .none, (.o (.s (.ia 2 (.t 73) (.t 74))))⟩, ⟨3, (.some 76), .none,
    (.o (.s (.fa 0 (.t 75))))⟩, ⟨4, (.some 77), .none, (.o (.s (.load .none (.t 76))))⟩, ⟨5, (.some 78), .none, (.o (.s (.bin .eql (.t 77) (.k (.int .i64 (1))))))⟩])
    (.cond (.t 78) (.ops 9 [⟨0, (.some 79), .none, (.o (.s (.mv (.t 10))))⟩, ⟨1, (.some 80), .none, (.o (.s (.mv (.t 0))))⟩, ⟨2, (.some 81), .none,
    (.o (.s (.mv (.t 11))))⟩, ⟨3, (.some 82), .none, (.o (.s (.ia 2 (.t 80) (.t 81))))⟩, ⟨4, (.some 83), .none, (.o (.s (.fa 1 (.t 82))))⟩, ⟨5, (.some 84), .none,
    (.o (.s (.load .none (.t 83))))⟩, ⟨6, (.some 85), .none, (.o (.call 11 [(.t 84)]))⟩, ⟨7, (.some 86), .none, (.o (.s (.bin .add (.t 79) (.t 85))))⟩, ⟨8, (.some 10),
    .none, (.o (.s (.mv (.t 86))))⟩]) .skip)))) (.ops 3 [⟨0, (.some 57), .none, (.o (.s (.mv (.t 11))))⟩, ⟨1, (.some 58), .none, (.o (.s (.bin .add (.t 57)
    (.k (.int .i64 (1))))))⟩, ⟨2, (.some 11), .none, (.o (.s (.mv (.t 58))))⟩])))
theorem F34l0w : F34l0.wf = true := by kernel_rfl
def F34l1 : S2 :=
  (.seq (.seq (.ops 4 [⟨0, (.some 14), .none, (.o (.s (.mv (.t 11))))⟩, ⟨1, (.some 15), .none, (.o (.s (.mv (.t 0))))⟩, ⟨2, (.some 16), .none, (.o (.s (.len (.t 15))))⟩, ⟨3,
    (.some 17), .none, (.o (.s (.bin .lss (.t 14) (.t 16))))⟩]) (.cond (.t 17) .skip (.exit 0))) (.seq (.block 1 (.seq (.seq (.ops 5 [⟨0, (.some 20), .none,
    (.o (.s (.mv (.t 0))))⟩, ⟨1, (.some 21), .none, (.o (.s (.mv (.t 11))))⟩, ⟨2, (.some 22), .none, (.o (.s (.ia 2 (.t 20) (.t 21))))⟩, ⟨3, (.some 23), .none,
    (.o (.s (.fa 0 (.t 22))))⟩, ⟨4, (.some 24), .none, (.o (.s (.load .none (.t 23))))⟩]) (.block 2 (.seq (.ops 2 [⟨0, (.some 26), .none, (.o (.s (.bin .eql (.t 24)
    (.k (.int .i64 (1))))))⟩, ⟨1, (.some 25), .none, (.o (.s (.mv (.t 26))))⟩]) (.cond (.t 25) (.ops 9 [⟨0, (.some 27), .none, (.o (.s (.mv (.t 10))))⟩, ⟨1, (.some 28),
    .none, (.o (.s (.mv (.t 0))))⟩, ⟨2, (.some 29), .none, (.o (.s (.mv (.t 11))))⟩, ⟨3, (.some 30), .none, (.o (.s (.ia 2 (.t 28) (.t 29))))⟩, ⟨4, (.some 31), .none,
    (.o (.s (.fa 1 (.t 30))))⟩, ⟨5, (.some 32), .none, (.o (.s (.load .none (.t 31))))⟩, ⟨6, (.some 33), .none, (.o (.call 11 [(.t 32)]))⟩, ⟨7, (.some 34), .none,
    (.o (.s (.bin .add (.t 27) (.t 33))))⟩, ⟨8, (.some 10), .none, (.o (.s (.mv (.t 34))))⟩]) (.seq (.ops 2 [⟨0, (.some 36), .none, (.o (.s (.bin .eql (.t 24)
    (.k (.int .i64 (2))))))⟩, ⟨1, (.some 35), .none, (.o (.s (.mv (.t 36))))⟩]) (.cond (.t 35) (.ops 3 [⟨0, (.some 37), .none, (.o (.s (.mv (.t 10))))⟩, ⟨1, (.some 38),
    .none, (.o (.s (.bin .add (.t 37) (.k (.int .i64 (1))))))⟩, ⟨2, (.some 10), .none, (.o (.s (.mv (.t 38))))⟩]) (.seq (.ops 2 [⟨0, (.some 40), .none,
    (.o (.s (.bin .eql (.t 24) (.k (.int .i64 (4))))))⟩, ⟨1, (.some 39), .none, (.o (.s (.mv (.t 40))))⟩]) (.cond (.t 39) (.seq (.ops 1 [⟨0, (.some 8), .none,
    (.o (.s (.mv (.k (.bool .false)))))⟩]) .ret) (.seq (.ops 2 [⟨0, (.some 42), .none, (.o (.s (.bin .eql (.t 24) (.k (.int .i64 (7))))))⟩, ⟨1, (.some 41), .none,
    (.o (.s (.mv (.t 42))))⟩]) (.cond (.t 41) (.ops 3 [⟨0, (.some 43), .none, (.o (.s (.mv (.t 9))))⟩, ⟨1, (.some 44), .none, (.o (.s (.bin .add (.t 43)
    (.k (.int .i64 (1))))))⟩, ⟨2, (.some 9), .none, (.o (.s (.mv (.t 44))))⟩]) (.seq (.ops 2 [⟨0, (.some 46), .none, (.o (.s (.bin .eql (.t 24) (.k (.int .i64 (8))))))⟩,
    ⟨1, (.some 45), .none, (.o (.s (.mv (.t 46))))⟩]) (.cond (.t 45) (.ops 3 [⟨0, (.some 47), .none, (.o (.s (.mv (.t 9))))⟩, ⟨1, (.some 48), .none,
    (.o (.s (.bin .sub (.t 47) (.k (.int .i64 (1))))))⟩, ⟨2, (.some 9), .none, (.o (.s (.mv (.t 48))))⟩]) .skip)))))))))))) (.seq (.ops 2 [⟨0, (.some 49), .none,
    (.o (.s (.mv (.t 9))))⟩, ⟨1, (.some 50), .none, (.o (.s (.bin .eql (.t 49) (.k (.int .i64 (0))))))⟩]) (.cond (.t 50) (.exit 0) .skip)))) (.ops 3 [⟨0, (.some 18),
    .none, (.o (.s (.mv (.t 11))))⟩, ⟨1, (.some 19), .none, (.o (.s (.bin .add (.t 18) (.k (.int .i64 (1))))))⟩, ⟨2, (.some 11), .none, (.o (.s (.mv (.t 19))))⟩])))
theorem F34l1w : F34l1.wf = true := by kernel_rfl
def F34s : S2 :=
  (.seq (.ops 1 [⟨0, (.some 8), .none, (.o (.s (.mv (.k (.bool .false)))))⟩]) (.seq (.ops 1 [⟨0, (.some 9), .none, (.o (.s (.mv (.k (.int .i64 (0))))))⟩]) (.seq (.ops 2 [⟨0,
    (.some 12), .none, (.o (.s (.mv (.t 2))))⟩, ⟨1, (.some 10), .none, (.o (.s (.mv (.t 12))))⟩]) (.seq (.ops 2 [⟨0, (.some 13), .none, (.o (.s (.mv (.t 1))))⟩, ⟨1,
    (.some 11), .none, (.o (.s (.mv (.t 13))))⟩]) (.seq (.block 0 (.loop F34l1)) (.seq (.seq (.ops 3 [⟨0, (.some 51), .none, (.o (.s (.mv (.t 11))))⟩, ⟨1, (.some 52),
    .none, (.o (.s (.bin .add (.t 51) (.k (.int .i64 (1))))))⟩, ⟨2, (.some 11), .none, (.o (.s (.mv (.t 52))))⟩]) (.block 3 (.loop F34l0))) (.seq (.ops 4 [⟨0, (.some 87),
    .none, (.o (.s (.mv (.t 10))))⟩, ⟨1, (.some 88), .none, (.o (.s (.mv (.t 3))))⟩, ⟨2, (.some 89), .none, (.o (.s (.bin .leq (.t 87) (.t 88))))⟩, ⟨3, (.some 8), .none,
    (.o (.s (.mv (.t 89))))⟩]) .ret)))))))
noncomputable def F34b : Go.Code := Go.Proofs.Try.f34.body.getD .skip
theorem F34c : comp C [] F34b = some F34s.er := by kernel_rfl
theorem F34w : F34s.wf = true := by kernel_rfl
theorem F34d : Go.Proofs.Try.f34.body = some F34b := by kernel_rfl
@[simp] def F34q : List RV2 := [(.o (.tmp 8))]
theorem F34r : compRVs C Go.Proofs.Try.f34.results.toList = some (F34q.map RV2.er) := by kernel_rfl
theorem F34e : Enters Go.Proofs.Try.prog 34 := enters_of Go.Proofs.Try.func34 (by kernel_rfl) (by kernel_rfl)

/-- (scarf/doc.Doc).Plain$1 -- 0: box t3; 1: box t5 -/
def F35l0 : S2 :=
  (.seq (.ops 1 [⟨0, (.some 21), .none, (.o (.s (.bin .lss (.t 20) (.t 19))))⟩]) (.seq (.cond (.t 21) .skip (.exit 0)) (.seq (.block 1 (.seq (.ops 4 [⟨0, (.some 22), .none,
    (.o (.s (.ia 3 (.t 18) (.t 20))))⟩, ⟨1, (.some 23), .none, (.o (.s (.load (.some 3) (.t 22))))⟩, ⟨2, (.some 5), .none, (.lalloc 1 34 [(.int .i64 (0)), (.str []),
    .nils])⟩, ⟨3, .none, .none, (.lstore 1 3 (.t 5) (.t 23))⟩]) (.ops 3 [⟨0, (.some 24), .none, (.o (.s (.load .none (.t 2))))⟩, ⟨1, (.some 25), .none, (.lload 1 (.some 3)
    (.t 5))⟩, ⟨2, (.some 26), .none, (.o (.callv (.t 24) [(.t 25)]))⟩]))) (.ops 2 [⟨0, (.some 27), .none, (.o (.s (.bin .add (.t 20) (.k (.int .i64 (1))))))⟩, ⟨1,
    (.some 20), .none, (.o (.s (.mv (.t 27))))⟩]))))
theorem F35l0w : F35l0.wf = true := by kernel_rfl
def F35s : S2 :=
  (.seq (.ops 1 [⟨0, (.some 3), .none, (.lbox 0 34 (.t 0))⟩]) (.seq (.seq (.ops 3 [⟨0, (.some 6), .none, (.o (.s (.fa 0 (.t 3))))⟩, ⟨1, (.some 7), .none,
    (.lload 0 .none (.t 6))⟩, ⟨2, (.some 8), .none, (.o (.s (.bin .gtr (.t 7) (.k (.int .i64 (0))))))⟩]) (.cond (.t 8) (.ops 9 [⟨0, (.some 9), .none,
    (.o (.s (.load .none (.t 1))))⟩, ⟨1, (.some 10), .none, (.o (.s (.fa 0 (.t 3))))⟩, ⟨2, (.some 11), .none, (.lload 0 .none (.t 10))⟩, ⟨3, (.some 12), .none,
    (.o (.s (.fa 1 (.t 3))))⟩, ⟨4, (.some 13), .none, (.lload 0 .none (.t 12))⟩, ⟨5, (.some 14), .none, (.o (.s (.build [(.int .i64 (0)), (.str [])] [(0, (1, (.t 11))),
    (1, (1, (.t 13)))])))⟩, ⟨6, (.some 15), .none, (.lbsl 2 45 2 1 [(.int .i64 (0)), (.str [])] [(0, (.t 14))] .false)⟩, ⟨7, (.some 16), .none,
    (.o (.s (.app 45 2 24 (.t 9) (.t 15))))⟩, ⟨8, .none, .none, (.o (.s (.store 1 (.t 1) (.t 16))))⟩]) .skip)) (.seq (.seq (.ops 4 [⟨0, (.some 17), .none,
    (.o (.s (.fa 2 (.t 3))))⟩, ⟨1, (.some 18), .none, (.lload 0 .none (.t 17))⟩, ⟨2, (.some 19), .none, (.o (.s (.len (.t 18))))⟩, ⟨3, (.some 20), .none,
    (.o (.s (.mv (.k (.int .i64 (0))))))⟩]) (.block 0 (.loop F35l0))) (.seq (.ops 3 [⟨0, (.some 28), .none, (.o (.s (.fa 0 (.t 3))))⟩, ⟨1, (.some 29), .none,
    (.lload 0 .none (.t 28))⟩, ⟨2, (.some 30), .none, (.o (.s (.bin .gtr (.t 29) (.k (.int .i64 (4))))))⟩]) (.cond (.t 30) (.ops 8 [⟨0, (.some 31), .none,
    (.o (.s (.load .none (.t 1))))⟩, ⟨1, (.some 32), .none, (.o (.s (.fa 0 (.t 3))))⟩, ⟨2, (.some 33), .none, (.lload 0 .none (.t 32))⟩, ⟨3, (.some 34), .none,
    (.o (.s (.bin .add (.t 33) (.k (.int .i64 (1))))))⟩, ⟨4, (.some 35), .none, (.o (.s (.build [(.int .i64 (0)), (.str [])] [(0, (1, (.t 34)))])))⟩, ⟨5, (.some 36),
    .none, (.lbsl 2 45 2 1 [(.int .i64 (0)), (.str [])] [(0, (.t 35))] .false)⟩, ⟨6, (.some 37), .none, (.o (.s (.app 45 2 24 (.t 31) (.t 36))))⟩, ⟨7, .none, .none,
    (.o (.s (.store 1 (.t 1) (.t 37))))⟩]) .skip)))))
noncomputable def F35b : Go.Code := Go.Proofs.Try.f35.body.getD .skip
theorem F35c : comp C [] F35b = some F35s.er := by kernel_rfl
theorem F35w : F35s.wf = true := by kernel_rfl
theorem F35d : Go.Proofs.Try.f35.body = some F35b := by kernel_rfl
@[simp] def F35q : List RV2 := []
theorem F35r : compRVs C Go.Proofs.Try.f35.results.toList = some (F35q.map RV2.er) := by kernel_rfl
theorem F35e : Enters Go.Proofs.Try.prog 35 := enters_of Go.Proofs.Try.func35 (by kernel_rfl) (by kernel_rfl)

/-- slices.Clone[[]scarf/doc.Doc,scarf/doc.Doc] -- 0: grows t2 t5 t7 -/
def F36s : S2 :=
  (.seq (.ops 1 [⟨0, (.some 2), .none, (.o (.s (.mv (.k .nils))))⟩]) (.seq (.seq (.ops 2 [⟨0, (.some 3), .none, (.o (.s (.mv (.t 0))))⟩, ⟨1, (.some 4), .none,
    (.o (.s (.eqs .slice .false (.t 3) (.k .nils))))⟩]) (.cond (.t 4) (.seq (.ops 1 [⟨0, (.some 2), .none, (.o (.s (.mv (.k .nils))))⟩]) .ret) .skip)) (.seq (.ops 4 [⟨0,
    (.some 5), .none, (.lbsl 0 34 3 0 [(.int .i64 (0)), (.str []), .nils] [] .false)⟩, ⟨1, (.some 6), .none, (.o (.s (.mv (.t 0))))⟩, ⟨2, (.some 7), .none,
    (.lapp 0 34 3 48 (.t 5) (.t 6))⟩, ⟨3, (.some 2), .none, (.o (.s (.mv (.t 7))))⟩]) .ret)))
noncomputable def F36b : Go.Code := Go.Proofs.Try.f36.body.getD .skip
theorem F36c : comp C [] F36b = some F36s.er := by kernel_rfl
theorem F36w : F36s.wf = true := by kernel_rfl
theorem F36d : Go.Proofs.Try.f36.body = some F36b := by kernel_rfl
@[simp] def F36q : List RV2 := [(.o (.tmp 2))]
theorem F36r : compRVs C Go.Proofs.Try.f36.results.toList = some (F36q.map RV2.er) := by kernel_rfl
theorem F36e : Enters Go.Proofs.Try.prog 36 := enters_of Go.Proofs.Try.func36 (by kernel_rfl) (by kernel_rfl)

/-- (*strings.Builder).WriteString --  -/
def F37s : S2 :=
  (.seq (.ops 2 [⟨0, (.some 4), .none, (.o (.s (.mv (.k (.int .i64 (0))))))⟩, ⟨1, (.some 5), .none, (.o (.s (.mv (.k .nili))))⟩]) (.seq (.ops 2 [⟨0, (.some 6), .none,
    (.o (.s (.mv (.t 0))))⟩, ⟨1, (.some 7), .none, (.o (.call 40 [(.t 6)]))⟩]) (.seq (.ops 10 [⟨0, (.some 8), .none, (.o (.s (.mv (.t 0))))⟩, ⟨1, (.some 9), .none,
    (.o (.s (.mv (.t 0))))⟩, ⟨2, (.some 10), .none, (.o (.s (.nilck (.t 9))))⟩, ⟨3, (.some 11), .none, (.o (.s (.fa 1 (.t 10))))⟩, ⟨4, (.some 12), .none,
    (.o (.s (.load .none (.t 11))))⟩, ⟨5, (.some 13), .none, (.o (.s (.mv (.t 1))))⟩, ⟨6, (.some 14), .none, (.o (.s (.app 5 1 1 (.t 12) (.t 13))))⟩, ⟨7, (.some 15),
    .none, (.o (.s (.nilck (.t 8))))⟩, ⟨8, (.some 16), .none, (.o (.s (.fa 1 (.t 15))))⟩, ⟨9, .none, .none, (.o (.s (.store 1 (.t 16) (.t 14))))⟩]) (.seq (.ops 4 [⟨0,
    (.some 17), .none, (.o (.s (.mv (.t 1))))⟩, ⟨1, (.some 18), .none, (.o (.s (.lens (.t 17))))⟩, ⟨2, (.some 4), .none, (.o (.s (.mv (.t 18))))⟩, ⟨3, (.some 5), .none,
    (.o (.s (.mv (.k .nili))))⟩]) .ret))))
noncomputable def F37b : Go.Code := Go.Proofs.Try.f37.body.getD .skip
theorem F37c : comp C [] F37b = some F37s.er := by kernel_rfl
theorem F37w : F37s.wf = true := by kernel_rfl
theorem F37d : Go.Proofs.Try.f37.body = some F37b := by kernel_rfl
@[simp] def F37q : List RV2 := [(.o (.tmp 4)), (.o (.tmp 5))]
theorem F37r : compRVs C Go.Proofs.Try.f37.results.toList = some (F37q.map RV2.er) := by kernel_rfl
theorem F37e : Enters Go.Proofs.Try.prog 37 := enters_of Go.Proofs.Try.func37 (by kernel_rfl) (by kernel_rfl)

/-- (*strings.Builder).WriteByte --  -/
def F38s : S2 :=
  (.seq (.ops 1 [⟨0, (.some 4), .none, (.o (.s (.mv (.k .nili))))⟩]) (.seq (.ops 2 [⟨0, (.some 5), .none, (.o (.s (.mv (.t 0))))⟩, ⟨1, (.some 6), .none,
    (.o (.call 40 [(.t 5)]))⟩]) (.seq (.ops 11 [⟨0, (.some 7), .none, (.o (.s (.mv (.t 0))))⟩, ⟨1, (.some 8), .none, (.o (.s (.mv (.t 0))))⟩, ⟨2, (.some 9), .none,
    (.o (.s (.nilck (.t 8))))⟩, ⟨3, (.some 10), .none, (.o (.s (.fa 1 (.t 9))))⟩, ⟨4, (.some 11), .none, (.o (.s (.load .none (.t 10))))⟩, ⟨5, (.some 12), .none,
    (.o (.s (.mv (.t 1))))⟩, ⟨6, (.some 13), .none, (.lbsl 0 5 1 1 [(.int .u8 (0))] [(0, (.t 12))] .false)⟩, ⟨7, (.some 14), .none, (.o (.s (.app 5 1 1 (.t 11)
    (.t 13))))⟩, ⟨8, (.some 15), .none, (.o (.s (.nilck (.t 7))))⟩, ⟨9, (.some 16), .none, (.o (.s (.fa 1 (.t 15))))⟩, ⟨10, .none, .none, (.o (.s (.store 1 (.t 16)
    (.t 14))))⟩]) (.seq (.ops 1 [⟨0, (.some 4), .none, (.o (.s (.mv (.k .nili))))⟩]) .ret))))
noncomputable def F38b : Go.Code := Go.Proofs.Try.f38.body.getD .skip
theorem F38c : comp C [] F38b = some F38s.er := by kernel_rfl
theorem F38w : F38s.wf = true := by kernel_rfl
theorem F38d : Go.Proofs.Try.f38.body = some F38b := by kernel_rfl
@[simp] def F38q : List RV2 := [(.o (.tmp 4))]
theorem F38r : compRVs C Go.Proofs.Try.f38.results.toList = some (F38q.map RV2.er) := by kernel_rfl
theorem F38e : Enters Go.Proofs.Try.prog 38 := enters_of Go.Proofs.Try.func38 (by kernel_rfl) (by kernel_rfl)

/-- (*strings.Builder).copyCheck --  -/
def F40s : S2 :=
  (.seq (.ops 5 [⟨0, (.some 2), .none, (.o (.s (.mv (.t 0))))⟩, ⟨1, (.some 3), .none, (.o (.s (.nilck (.t 2))))⟩, ⟨2, (.some 4), .none, (.o (.s (.fa 0 (.t 3))))⟩, ⟨3,
    (.some 5), .none, (.o (.s (.load .none (.t 4))))⟩, ⟨4, (.some 6), .none, (.o (.s (.eqs .ptr .false (.t 5) (.k .nilp))))⟩]) (.cond (.t 6) (.ops 8 [⟨0, (.some 7), .none,
    (.o (.s (.mv (.t 0))))⟩, ⟨1, (.some 8), .none, (.o (.s (.mv (.t 0))))⟩, ⟨2, (.some 9), .none, (.o (.s (.cvpu (.t 8))))⟩, ⟨3, (.some 10), .none,
    (.o (.s (.idn (.t 9))))⟩, ⟨4, (.some 11), .none, (.o (.s (.cvup [(63, 2), (64, 2), (65, 5), (66, 5)] (.t 10))))⟩, ⟨5, (.some 12), .none, (.o (.s (.nilck (.t 7))))⟩,
    ⟨6, (.some 13), .none, (.o (.s (.fa 0 (.t 12))))⟩, ⟨7, .none, .none, (.o (.s (.store 1 (.t 13) (.t 11))))⟩]) (.seq (.ops 6 [⟨0, (.some 14), .none,
    (.o (.s (.mv (.t 0))))⟩, ⟨1, (.some 15), .none, (.o (.s (.nilck (.t 14))))⟩, ⟨2, (.some 16), .none, (.o (.s (.fa 0 (.t 15))))⟩, ⟨3, (.some 17), .none,
    (.o (.s (.load .none (.t 16))))⟩, ⟨4, (.some 18), .none, (.o (.s (.mv (.t 0))))⟩, ⟨5, (.some 19), .none, (.o (.s (.eqs .ptr .true (.t 17) (.t 18))))⟩]) (.cond (.t 19)
    .refuse .skip))))
noncomputable def F40b : Go.Code := Go.Proofs.Try.f40.body.getD .skip
theorem F40c : comp C [] F40b = some F40s.er := by kernel_rfl
theorem F40w : F40s.wf = true := by kernel_rfl
theorem F40d : Go.Proofs.Try.f40.body = some F40b := by kernel_rfl
@[simp] def F40q : List RV2 := []
theorem F40r : compRVs C Go.Proofs.Try.f40.results.toList = some (F40q.map RV2.er) := by kernel_rfl
theorem F40e : Enters Go.Proofs.Try.prog 40 := enters_of Go.Proofs.Try.func40 (by kernel_rfl) (by kernel_rfl)

/-- math/bits.Mul --  -/
def F41s : S2 :=
  (.seq (.ops 2 [⟨0, (.some 4), .none, (.o (.s (.mv (.k (.int .u64 (0))))))⟩, ⟨1, (.some 5), .none, (.o (.s (.mv (.k (.int .u64 (0))))))⟩]) (.seq (.cond (.k (.bool .false))
    (.seq (.ops 10 [⟨0, (.some 11), .none, (.o (.s (.mv (.t 0))))⟩, ⟨1, (.some 12), .none, (.o (.s (.cvi .u32 (.t 11))))⟩, ⟨2, (.some 13), .none, (.o (.s (.mv (.t 1))))⟩,
    ⟨3, (.some 14), .none, (.o (.s (.cvi .u32 (.t 13))))⟩, ⟨4, (.some 15), .none, (.o (.call 46 [(.t 12), (.t 14)]))⟩, ⟨5, (.some 10), .none, (.o (.s (.mv (.t 15))))⟩, ⟨6,
    (.some 16), .none, (.o (.s (.ext (.t 10) 0)))⟩, ⟨7, (.some 17), .none, (.o (.s (.ext (.t 10) 1)))⟩, ⟨8, (.some 6), .none, (.o (.s (.mv (.t 16))))⟩, ⟨9, (.some 7),
    .none, (.o (.s (.mv (.t 17))))⟩]) (.seq (.ops 6 [⟨0, (.some 18), .none, (.o (.s (.mv (.t 6))))⟩, ⟨1, (.some 19), .none, (.o (.s (.cvi .u64 (.t 18))))⟩, ⟨2, (.some 20),
    .none, (.o (.s (.mv (.t 7))))⟩, ⟨3, (.some 21), .none, (.o (.s (.cvi .u64 (.t 20))))⟩, ⟨4, (.some 4), .none, (.o (.s (.mv (.t 19))))⟩, ⟨5, (.some 5), .none,
    (.o (.s (.mv (.t 21))))⟩]) .ret)) .skip) (.seq (.ops 8 [⟨0, (.some 23), .none, (.o (.s (.mv (.t 0))))⟩, ⟨1, (.some 24), .none, (.o (.s (.mv (.t 1))))⟩, ⟨2, (.some 25),
    .none, (.o (.call 47 [(.t 23), (.t 24)]))⟩, ⟨3, (.some 22), .none, (.o (.s (.mv (.t 25))))⟩, ⟨4, (.some 26), .none, (.o (.s (.ext (.t 22) 0)))⟩, ⟨5, (.some 27), .none,
    (.o (.s (.ext (.t 22) 1)))⟩, ⟨6, (.some 8), .none, (.o (.s (.mv (.t 26))))⟩, ⟨7, (.some 9), .none, (.o (.s (.mv (.t 27))))⟩]) (.seq (.ops 4 [⟨0, (.some 28), .none,
    (.o (.s (.mv (.t 8))))⟩, ⟨1, (.some 29), .none, (.o (.s (.mv (.t 9))))⟩, ⟨2, (.some 4), .none, (.o (.s (.mv (.t 28))))⟩, ⟨3, (.some 5), .none,
    (.o (.s (.mv (.t 29))))⟩]) .ret))))
noncomputable def F41b : Go.Code := Go.Proofs.Try.f41.body.getD .skip
theorem F41c : comp C [] F41b = some F41s.er := by kernel_rfl
theorem F41w : F41s.wf = true := by kernel_rfl
theorem F41d : Go.Proofs.Try.f41.body = some F41b := by kernel_rfl
@[simp] def F41q : List RV2 := [(.o (.tmp 4)), (.o (.tmp 5))]
theorem F41r : compRVs C Go.Proofs.Try.f41.results.toList = some (F41q.map RV2.er) := by kernel_rfl
theorem F41e : Enters Go.Proofs.Try.prog 41 := enters_of Go.Proofs.Try.func41 (by kernel_rfl) (by kernel_rfl)

/-- strings.HasPrefix --  -/
def F42s : S2 :=
  (.seq (.ops 1 [⟨0, (.some 4), .none, (.o (.s (.mv (.k (.bool .false)))))⟩]) (.seq (.ops 4 [⟨0, (.some 5), .none, (.o (.s (.mv (.t 0))))⟩, ⟨1, (.some 6), .none,
    (.o (.s (.mv (.t 1))))⟩, ⟨2, (.some 7), .none, (.o (.call 48 [(.t 5), (.t 6)]))⟩, ⟨3, (.some 4), .none, (.o (.s (.mv (.t 7))))⟩]) .ret))
noncomputable def F42b : Go.Code := Go.Proofs.Try.f42.body.getD .skip
theorem F42c : comp C [] F42b = some F42s.er := by kernel_rfl
theorem F42w : F42s.wf = true := by kernel_rfl
theorem F42d : Go.Proofs.Try.f42.body = some F42b := by kernel_rfl
@[simp] def F42q : List RV2 := [(.o (.tmp 4))]
theorem F42r : compRVs C Go.Proofs.Try.f42.results.toList = some (F42q.map RV2.er) := by kernel_rfl
theorem F42e : Enters Go.Proofs.Try.prog 42 := enters_of Go.Proofs.Try.func42 (by kernel_rfl) (by kernel_rfl)

/-- (*strings.Builder).Len --  -/
def F44s : S2 :=
  (.seq (.ops 1 [⟨0, (.some 2), .none, (.o (.s (.mv (.k (.int .i64 (0))))))⟩]) (.seq (.ops 6 [⟨0, (.some 3), .none, (.o (.s (.mv (.t 0))))⟩, ⟨1, (.some 4), .none,
    (.o (.s (.nilck (.t 3))))⟩, ⟨2, (.some 5), .none, (.o (.s (.fa 1 (.t 4))))⟩, ⟨3, (.some 6), .none, (.o (.s (.load .none (.t 5))))⟩, ⟨4, (.some 7), .none,
    (.o (.s (.len (.t 6))))⟩, ⟨5, (.some 2), .none, (.o (.s (.mv (.t 7))))⟩]) .ret))
noncomputable def F44b : Go.Code := Go.Proofs.Try.f44.body.getD .skip
theorem F44c : comp C [] F44b = some F44s.er := by kernel_rfl
theorem F44w : F44s.wf = true := by kernel_rfl
theorem F44d : Go.Proofs.Try.f44.body = some F44b := by kernel_rfl
@[simp] def F44q : List RV2 := [(.o (.tmp 2))]
theorem F44r : compRVs C Go.Proofs.Try.f44.results.toList = some (F44q.map RV2.er) := by kernel_rfl
theorem F44e : Enters Go.Proofs.Try.prog 44 := enters_of Go.Proofs.Try.func44 (by kernel_rfl) (by kernel_rfl)

/-- math/bits.Mul32 --  -/
def F46s : S2 :=
  (.seq (.ops 2 [⟨0, (.some 4), .none, (.o (.s (.mv (.k (.int .u32 (0))))))⟩, ⟨1, (.some 5), .none, (.o (.s (.mv (.k (.int .u32 (0))))))⟩]) (.seq (.ops 6 [⟨0, (.some 7),
    .none, (.o (.s (.mv (.t 0))))⟩, ⟨1, (.some 8), .none, (.o (.s (.cvi .u64 (.t 7))))⟩, ⟨2, (.some 9), .none, (.o (.s (.mv (.t 1))))⟩, ⟨3, (.some 10), .none,
    (.o (.s (.cvi .u64 (.t 9))))⟩, ⟨4, (.some 11), .none, (.o (.s (.bin .mul (.t 8) (.t 10))))⟩, ⟨5, (.some 6), .none, (.o (.s (.mv (.t 11))))⟩]) (.seq (.ops 7 [⟨0,
    (.some 12), .none, (.o (.s (.mv (.t 6))))⟩, ⟨1, (.some 13), .none, (.o (.s (.bin .shr (.t 12) (.k (.int .u64 (32))))))⟩, ⟨2, (.some 14), .none,
    (.o (.s (.cvi .u32 (.t 13))))⟩, ⟨3, (.some 15), .none, (.o (.s (.mv (.t 6))))⟩, ⟨4, (.some 16), .none, (.o (.s (.cvi .u32 (.t 15))))⟩, ⟨5, (.some 4), .none,
    (.o (.s (.mv (.t 14))))⟩, ⟨6, (.some 5), .none, (.o (.s (.mv (.t 16))))⟩]) .ret)))
noncomputable def F46b : Go.Code := Go.Proofs.Try.f46.body.getD .skip
theorem F46c : comp C [] F46b = some F46s.er := by kernel_rfl
theorem F46w : F46s.wf = true := by kernel_rfl
theorem F46d : Go.Proofs.Try.f46.body = some F46b := by kernel_rfl
@[simp] def F46q : List RV2 := [(.o (.tmp 4)), (.o (.tmp 5))]
theorem F46r : compRVs C Go.Proofs.Try.f46.results.toList = some (F46q.map RV2.er) := by kernel_rfl
theorem F46e : Enters Go.Proofs.Try.prog 46 := enters_of Go.Proofs.Try.func46 (by kernel_rfl) (by kernel_rfl)

/-- math/bits.Mul64 --  -/
def F47s : S2 :=
  (.seq (.ops 2 [⟨0, (.some 4), .none, (.o (.s (.mv (.k (.int .u64 (0))))))⟩, ⟨1, (.some 5), .none, (.o (.s (.mv (.k (.int .u64 (0))))))⟩]) (.seq (.ops 3 [⟨0, (.some 14),
    .none, (.o (.s (.mv (.t 0))))⟩, ⟨1, (.some 15), .none, (.o (.s (.bin .and (.t 14) (.k (.int .u64 (4294967295))))))⟩, ⟨2, (.some 6), .none, (.o (.s (.mv (.t 15))))⟩])
    (.seq (.ops 3 [⟨0, (.some 16), .none, (.o (.s (.mv (.t 0))))⟩, ⟨1, (.some 17), .none, (.o (.s (.bin .shr (.t 16) (.k (.int .u64 (32))))))⟩, ⟨2, (.some 7), .none,
    (.o (.s (.mv (.t 17))))⟩]) (.seq (.ops 3 [⟨0, (.some 18), .none, (.o (.s (.mv (.t 1))))⟩, ⟨1, (.some 19), .none, (.o (.s (.bin .and (.t 18)
    (.k (.int .u64 (4294967295))))))⟩, ⟨2, (.some 8), .none, (.o (.s (.mv (.t 19))))⟩]) (.seq (.ops 3 [⟨0, (.some 20), .none, (.o (.s (.mv (.t 1))))⟩, ⟨1, (.some 21),
    .none, (.o (.s (.bin .shr (.t 20) (.k (.int .u64 (32))))))⟩, ⟨2, (.some 9), .none, (.o (.s (.mv (.t 21))))⟩]) (.seq (.ops 4 [⟨0, (.some 22), .none,
    (.o (.s (.mv (.t 6))))⟩, ⟨1, (.some 23), .none, (.o (.s (.mv (.t 8))))⟩, ⟨2, (.some 24), .none, (.o (.s (.bin .mul (.t 22) (.t 23))))⟩, ⟨3, (.some 10), .none,
    (.o (.s (.mv (.t 24))))⟩]) (.seq (.ops 7 [⟨0, (.some 25), .none, (.o (.s (.mv (.t 7))))⟩, ⟨1, (.some 26), .none, (.o (.s (.mv (.t 8))))⟩, ⟨2, (.some 27), .none,
    (.o (.s (.bin .mul (.t 25) (.t 26))))⟩, ⟨3, (.some 28), .none, (.o (.s (.mv (.t 10))))⟩, ⟨4, (.some 29), .none, (.o (.s (.bin .shr (.t 28) (.k (.int .u64 (32))))))⟩,
    ⟨5, (.some 30), .none, (.o (.s (.bin .add (.t 27) (.t 29))))⟩, ⟨6, (.some 11), .none, (.o (.s (.mv (.t 30))))⟩]) (.seq (.ops 3 [⟨0, (.some 31), .none,
    (.o (.s (.mv (.t 11))))⟩, ⟨1, (.some 32), .none, (.o (.s (.bin .and (.t 31) (.k (.int .u64 (4294967295))))))⟩, ⟨2, (.some 12), .none, (.o (.s (.mv (.t 32))))⟩])
    (.seq (.ops 3 [⟨0, (.some 33), .none, (.o (.s (.mv (.t 11))))⟩, ⟨1, (.some 34), .none, (.o (.s (.bin .shr (.t 33) (.k (.int .u64 (32))))))⟩, ⟨2, (.some 13), .none,
    (.o (.s (.mv (.t 34))))⟩]) (.seq (.ops 6 [⟨0, (.some 35), .none, (.o (.s (.mv (.t 12))))⟩, ⟨1, (.some 36), .none, (.o (.s (.mv (.t 6))))⟩, ⟨2, (.some 37), .none,
    (.o (.s (.mv (.t 9))))⟩, ⟨3, (.some 38), .none, (.o (.s (.bin .mul (.t 36) (.t 37))))⟩, ⟨4, (.some 39), .none, (.o (.s (.bin .add (.t 35) (.t 38))))⟩, ⟨5, (.some 12),
    .none, (.o (.s (.mv (.t 39))))⟩]) (.seq (.ops 9 [⟨0, (.some 40), .none, (.o (.s (.mv (.t 7))))⟩, ⟨1, (.some 41), .none, (.o (.s (.mv (.t 9))))⟩, ⟨2, (.some 42), .none,
    (.o (.s (.bin .mul (.t 40) (.t 41))))⟩, ⟨3, (.some 43), .none, (.o (.s (.mv (.t 13))))⟩, ⟨4, (.some 44), .none, (.o (.s (.bin .add (.t 42) (.t 43))))⟩, ⟨5, (.some 45),
    .none, (.o (.s (.mv (.t 12))))⟩, ⟨6, (.some 46), .none, (.o (.s (.bin .shr (.t 45) (.k (.int .u64 (32))))))⟩, ⟨7, (.some 47), .none, (.o (.s (.bin .add (.t 44)
    (.t 46))))⟩, ⟨8, (.some 4), .none, (.o (.s (.mv (.t 47))))⟩]) (.seq (.ops 4 [⟨0, (.some 48), .none, (.o (.s (.mv (.t 0))))⟩, ⟨1, (.some 49), .none,
    (.o (.s (.mv (.t 1))))⟩, ⟨2, (.some 50), .none, (.o (.s (.bin .mul (.t 48) (.t 49))))⟩, ⟨3, (.some 5), .none, (.o (.s (.mv (.t 50))))⟩]) .ret))))))))))))
noncomputable def F47b : Go.Code := Go.Proofs.Try.f47.body.getD .skip
theorem F47c : comp C [] F47b = some F47s.er := by kernel_rfl
theorem F47w : F47s.wf = true := by kernel_rfl
theorem F47d : Go.Proofs.Try.f47.body = some F47b := by kernel_rfl
@[simp] def F47q : List RV2 := [(.o (.tmp 4)), (.o (.tmp 5))]
theorem F47r : compRVs C Go.Proofs.Try.f47.results.toList = some (F47q.map RV2.er) := by kernel_rfl
theorem F47e : Enters Go.Proofs.Try.prog 47 := enters_of Go.Proofs.Try.func47 (by kernel_rfl) (by kernel_rfl)

/-- internal/stringslite.HasPrefix --  -/
def F48s : S2 :=
  (.seq (.ops 1 [⟨0, (.some 4), .none, (.o (.s (.mv (.k (.bool .false)))))⟩]) (.seq (.ops 14 [⟨0, (.some 5), .none, (.o (.s (.mv (.t 0))))⟩, ⟨1, (.some 6), .none,
    (.o (.s (.lens (.t 5))))⟩, ⟨2, (.some 7), .none, (.o (.s (.mv (.t 1))))⟩, ⟨3, (.some 8), .none, (.o (.s (.lens (.t 7))))⟩, ⟨4, (.some 9), .none,
    (.o (.s (.bin .geq (.t 6) (.t 8))))⟩, ⟨5, (.some 10), .none, (.o (.s (.mv (.t 9))))⟩, ⟨6, (.some 11), (.some (10, .true)), (.o (.s (.mv (.t 0))))⟩, ⟨7, (.some 12),
    (.some (10, .true)), (.o (.s (.mv (.t 1))))⟩, ⟨8, (.some 13), (.some (10, .true)), (.o (.s (.lens (.t 12))))⟩, ⟨9, (.some 14), (.some (10, .true)),
    (.o (.s (.subs (.t 11) .none (.some (.t 13)))))⟩, ⟨10, (.some 15), (.some (10, .true)), (.o (.s (.mv (.t 1))))⟩, ⟨11, (.some 16), (.some (10, .true)),
    (.o (.s (.bin .eql (.t 14) (.t 15))))⟩, ⟨12, (.some 17), .none, (.o (.s (.pick (.t 10) (.t 16) (.k (.bool .false)))))⟩, ⟨13, (.some 4), .none,
    (.o (.s (.mv (.t 17))))⟩]) .ret))
noncomputable def F48b : Go.Code := Go.Proofs.Try.f48.body.getD .skip
theorem F48c : comp C [] F48b = some F48s.er := by kernel_rfl
theorem F48w : F48s.wf = true := by kernel_rfl
theorem F48d : Go.Proofs.Try.f48.body = some F48b := by kernel_rfl
@[simp] def F48q : List RV2 := [(.o (.tmp 4))]
theorem F48r : compRVs C Go.Proofs.Try.f48.results.toList = some (F48q.map RV2.er) := by kernel_rfl
theorem F48e : Enters Go.Proofs.Try.prog 48 := enters_of Go.Proofs.Try.func48 (by kernel_rfl) (by kernel_rfl)

end Go.Proofs.Ytoeonamjbohokaa.Lt
