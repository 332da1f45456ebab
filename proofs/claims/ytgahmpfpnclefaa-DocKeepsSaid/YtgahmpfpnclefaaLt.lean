/- The light code of this seat's functions, locals by name (written by light2.py of the prover's own tools). -/
import Derived.Test.YtgahmpfpnclefaaChecked
import Derived.Test.YtgahmpfpnclefaaB3
import Derived.KernelRfl
namespace Go.Proofs.Ytgahmpfpnclefaa.Lt
open Go.Proofs.YtgahmpfpnclefaaW.Abs
set_option linter.unusedVariables false
set_option maxRecDepth 100000

noncomputable abbrev C : Ctx := ctxOf Go.Proofs.Try.prog [32]
theorem cok : C.Ok Go.Proofs.Try.prog := ctxOf_ok (by kernel_rfl) (fun f hf v w => by simp at hf; subst hf; exact same_of Go.Proofs.Try.func32 (by kernel_rfl) (by kernel_rfl) (by kernel_rfl) (by kernel_rfl) v w)

/-- scarf/scarflaw07.DocPieces -- 0: box t1; 1: box t3 -/
def F3s : S2 :=
  (.seq (.ops 2 [⟨0, (.some 1), .none, (.lbox 0 24 (.t 0))⟩, ⟨1, (.some 2), .none, (.o (.s (.mv (.k (.bool .false)))))⟩]) (.seq (.seq (.ops 3 [⟨0, (.some 9), .none,
    (.lload 0 (.some 3) (.t 1))⟩, ⟨1, (.some 10), .none, (.o (.call 8 [(.t 9)]))⟩, ⟨2, (.some 11), .none, (.o (.s (.un .not (.t 10))))⟩]) (.cond (.t 11) (.seq (.ops 2 [⟨0,
    (.some 12), .none, (.o (.call 9 []))⟩, ⟨1, (.some 2), .none, (.o (.s (.mv (.t 12))))⟩]) .ret) .skip)) (.seq (.ops 4 [⟨0, (.some 13), .none, (.lload 0 (.some 3)
    (.t 1))⟩, ⟨1, (.some 14), .none, (.o (.call 10 [(.t 13)]))⟩, ⟨2, (.some 3), .none, (.lalloc 1 29 [(.int .i64 (0)), (.str []), .nils])⟩, ⟨3, .none, .none,
    (.lstore 1 3 (.t 3) (.t 14))⟩]) (.seq (.ops 3 [⟨0, (.some 15), .none, (.lload 0 (.some 3) (.t 1))⟩, ⟨1, (.some 16), .none, (.o (.call 11 [(.t 15),
    (.k (.int .i64 (1000)))]))⟩, ⟨2, (.some 4), .none, (.o (.s (.mv (.t 16))))⟩]) (.seq (.ops 7 [⟨0, (.some 18), .none, (.lload 1 (.some 3) (.t 3))⟩, ⟨1, (.some 19),
    .none, (.o (.call 12 [(.t 18)]))⟩, ⟨2, (.some 17), .none, (.o (.s (.mv (.t 19))))⟩, ⟨3, (.some 20), .none, (.o (.s (.ext (.t 17) 0)))⟩, ⟨4, (.some 21), .none,
    (.o (.s (.ext (.t 17) 1)))⟩, ⟨5, (.some 5), .none, (.o (.s (.mv (.t 20))))⟩, ⟨6, (.some 6), .none, (.o (.s (.mv (.t 21))))⟩]) (.seq (.ops 7 [⟨0, (.some 23), .none,
    (.o (.s (.mv (.t 4))))⟩, ⟨1, (.some 24), .none, (.o (.call 13 [(.t 23)]))⟩, ⟨2, (.some 22), .none, (.o (.s (.mv (.t 24))))⟩, ⟨3, (.some 25), .none,
    (.o (.s (.ext (.t 22) 0)))⟩, ⟨4, (.some 26), .none, (.o (.s (.ext (.t 22) 1)))⟩, ⟨5, (.some 7), .none, (.o (.s (.mv (.t 25))))⟩, ⟨6, (.some 8), .none,
    (.o (.s (.mv (.t 26))))⟩]) (.seq (.ops 18 [⟨0, (.some 27), .none, (.o (.call 9 []))⟩, ⟨1, (.some 28), .none, (.o (.s (.mv (.t 27))))⟩, ⟨2, (.some 29), (.some (28,
    .true)), (.lload 1 (.some 3) (.t 3))⟩, ⟨3, (.some 30), (.some (28, .true)), (.o (.call 15 [(.t 29)]))⟩, ⟨4, (.some 31), (.some (28, .true)), (.o (.s (.mv (.t 4))))⟩,
    ⟨5, (.some 32), (.some (28, .true)), (.o (.call 14 [(.t 30), (.t 31)]))⟩, ⟨6, (.some 33), .none, (.o (.s (.pick (.t 28) (.t 32) (.k (.bool .false)))))⟩, ⟨7,
    (.some 34), .none, (.o (.s (.mv (.t 33))))⟩, ⟨8, (.some 35), (.some (34, .true)), (.o (.s (.mv (.t 5))))⟩, ⟨9, (.some 36), (.some (34, .true)),
    (.o (.s (.mv (.t 7))))⟩, ⟨10, (.some 37), (.some (34, .true)), (.o (.s (.bin .eql (.t 35) (.t 36))))⟩, ⟨11, (.some 38), .none, (.o (.s (.pick (.t 34) (.t 37)
    (.k (.bool .false)))))⟩, ⟨12, (.some 39), .none, (.o (.s (.mv (.t 38))))⟩, ⟨13, (.some 40), (.some (39, .true)), (.o (.s (.mv (.t 6))))⟩, ⟨14, (.some 41), (.some (39,
    .true)), (.o (.s (.mv (.t 8))))⟩, ⟨15, (.some 42), (.some (39, .true)), (.o (.s (.eqs .bool .false (.t 40) (.t 41))))⟩, ⟨16, (.some 43), .none, (.o (.s (.pick (.t 39)
    (.t 42) (.k (.bool .false)))))⟩, ⟨17, (.some 2), .none, (.o (.s (.mv (.t 43))))⟩]) .ret)))))))
noncomputable def F3b : Go.Code := Go.Proofs.Try.f3.body.getD .skip
theorem F3c : comp C [] F3b = some F3s.er := by kernel_rfl
theorem F3w : F3s.wf = true := by kernel_rfl
theorem F3d : Go.Proofs.Try.f3.body = some F3b := by kernel_rfl
@[simp] def F3q : List RV2 := [(.o (.tmp 2))]
theorem F3r : compRVs C Go.Proofs.Try.f3.results.toList = some (F3q.map RV2.er) := by kernel_rfl
theorem F3e : Enters Go.Proofs.Try.prog 3 := enters_of Go.Proofs.Try.func3 (by kernel_rfl) (by kernel_rfl)

/-- scarf/scarflaw07.DocFlats -- 0: box t2; 1: box t3; 2: box t5; 3: box t6 -/
def F4s : S2 :=
  (.seq (.ops 3 [⟨0, (.some 2), .none, (.lbox 0 24 (.t 0))⟩, ⟨1, (.some 3), .none, (.lbox 1 24 (.t 1))⟩, ⟨2, (.some 4), .none, (.o (.s (.mv (.k (.bool .false)))))⟩])
    (.seq (.seq (.ops 8 [⟨0, (.some 17), .none, (.lload 0 (.some 3) (.t 2))⟩, ⟨1, (.some 18), .none, (.o (.call 8 [(.t 17)]))⟩, ⟨2, (.some 19), .none,
    (.o (.s (.un .not (.t 18))))⟩, ⟨3, (.some 20), .none, (.o (.s (.mv (.t 19))))⟩, ⟨4, (.some 21), (.some (20, .false)), (.lload 1 (.some 3) (.t 3))⟩, ⟨5, (.some 22),
    (.some (20, .false)), (.o (.call 8 [(.t 21)]))⟩, ⟨6, (.some 23), (.some (20, .false)), (.o (.s (.un .not (.t 22))))⟩, ⟨7, (.some 24), .none, (.o (.s (.pick (.t 20)
    (.k (.bool .true)) (.t 23))))⟩]) (.cond (.t 24) (.seq (.ops 2 [⟨0, (.some 25), .none, (.o (.call 9 []))⟩, ⟨1, (.some 4), .none, (.o (.s (.mv (.t 25))))⟩]) .ret)
    .skip)) (.seq (.dops 8 [(⟨0, (.some 26), .none, (.lload 0 (.some 3) (.t 2))⟩, (.mk 1 [])), (⟨1, (.some 27), .none, (.o (.call 10 [(.t 26)]))⟩, (.mk 0 [])), (⟨2,
    (.some 28), .none, (.lload 1 (.some 3) (.t 3))⟩, (.mk 1 [])), (⟨3, (.some 29), .none, (.o (.call 10 [(.t 28)]))⟩, (.mk 0 [])), (⟨4, (.some 5), .none,
    (.lalloc 2 29 [(.int .i64 (0)), (.str []), .nils])⟩, (.mk 0 [4])), (⟨5, (.some 6), .none, (.lalloc 3 29 [(.int .i64 (0)), (.str []), .nils])⟩, (.mk 0 [5])), (⟨6,
    .none, .none, (.lstore 2 3 (.t 5) (.t 27))⟩, (.mk 0 [4])), (⟨7, .none, .none, (.lstore 3 3 (.t 6) (.t 29))⟩, (.mk 0 [5]))]) (.seq (.ops 7 [⟨0, (.some 31), .none,
    (.lload 2 (.some 3) (.t 5))⟩, ⟨1, (.some 32), .none, (.o (.call 12 [(.t 31)]))⟩, ⟨2, (.some 30), .none, (.o (.s (.mv (.t 32))))⟩, ⟨3, (.some 33), .none,
    (.o (.s (.ext (.t 30) 0)))⟩, ⟨4, (.some 34), .none, (.o (.s (.ext (.t 30) 1)))⟩, ⟨5, (.some 7), .none, (.o (.s (.mv (.t 33))))⟩, ⟨6, (.some 8), .none,
    (.o (.s (.mv (.t 34))))⟩]) (.seq (.ops 7 [⟨0, (.some 36), .none, (.lload 3 (.some 3) (.t 6))⟩, ⟨1, (.some 37), .none, (.o (.call 12 [(.t 36)]))⟩, ⟨2, (.some 35),
    .none, (.o (.s (.mv (.t 37))))⟩, ⟨3, (.some 38), .none, (.o (.s (.ext (.t 35) 0)))⟩, ⟨4, (.some 39), .none, (.o (.s (.ext (.t 35) 1)))⟩, ⟨5, (.some 9), .none,
    (.o (.s (.mv (.t 38))))⟩, ⟨6, (.some 10), .none, (.o (.s (.mv (.t 39))))⟩]) (.seq (.ops 10 [⟨0, (.some 41), .none, (.lload 2 (.some 3) (.t 5))⟩, ⟨1, (.some 42), .none,
    (.lload 3 (.some 3) (.t 6))⟩, ⟨2, (.some 43), .none, (.lbsl 4 29 3 2 [(.int .i64 (0)), (.str []), .nils] [(0, (.t 41)), (1, (.t 42))] .false)⟩, ⟨3, (.some 44), .none,
    (.o (.call 16 [(.t 43)]))⟩, ⟨4, (.some 45), .none, (.o (.call 12 [(.t 44)]))⟩, ⟨5, (.some 40), .none, (.o (.s (.mv (.t 45))))⟩, ⟨6, (.some 46), .none,
    (.o (.s (.ext (.t 40) 0)))⟩, ⟨7, (.some 47), .none, (.o (.s (.ext (.t 40) 1)))⟩, ⟨8, (.some 11), .none, (.o (.s (.mv (.t 46))))⟩, ⟨9, (.some 12), .none,
    (.o (.s (.mv (.t 47))))⟩]) (.seq (.ops 8 [⟨0, (.some 49), .none, (.lload 2 (.some 3) (.t 5))⟩, ⟨1, (.some 50), .none, (.o (.call 17 [(.t 49)]))⟩, ⟨2, (.some 51),
    .none, (.o (.call 12 [(.t 50)]))⟩, ⟨3, (.some 48), .none, (.o (.s (.mv (.t 51))))⟩, ⟨4, (.some 52), .none, (.o (.s (.ext (.t 48) 0)))⟩, ⟨5, (.some 53), .none,
    (.o (.s (.ext (.t 48) 1)))⟩, ⟨6, (.some 13), .none, (.o (.s (.mv (.t 52))))⟩, ⟨7, (.some 14), .none, (.o (.s (.mv (.t 53))))⟩]) (.seq (.ops 8 [⟨0, (.some 55), .none,
    (.lload 2 (.some 3) (.t 5))⟩, ⟨1, (.some 56), .none, (.o (.call 18 [(.t 55)]))⟩, ⟨2, (.some 57), .none, (.o (.call 12 [(.t 56)]))⟩, ⟨3, (.some 54), .none,
    (.o (.s (.mv (.t 57))))⟩, ⟨4, (.some 58), .none, (.o (.s (.ext (.t 54) 0)))⟩, ⟨5, (.some 59), .none, (.o (.s (.ext (.t 54) 1)))⟩, ⟨6, (.some 15), .none,
    (.o (.s (.mv (.t 58))))⟩, ⟨7, (.some 16), .none, (.o (.s (.mv (.t 59))))⟩]) (.seq (.seq (.ops 26 [⟨0, (.some 60), .none, (.o (.s (.mv (.t 12))))⟩, ⟨1, (.some 61),
    .none, (.o (.s (.mv (.t 8))))⟩, ⟨2, (.some 62), .none, (.o (.s (.mv (.t 61))))⟩, ⟨3, (.some 63), (.some (62, .true)), (.o (.s (.mv (.t 10))))⟩, ⟨4, (.some 64), .none,
    (.o (.s (.pick (.t 62) (.t 63) (.k (.bool .false)))))⟩, ⟨5, (.some 65), .none, (.o (.s (.eqs .bool .true (.t 60) (.t 64))))⟩, ⟨6, (.some 66), .none,
    (.o (.s (.mv (.t 65))))⟩, ⟨7, (.some 67), (.some (66, .false)), (.o (.s (.mv (.t 14))))⟩, ⟨8, (.some 68), (.some (66, .false)), (.o (.s (.mv (.t 8))))⟩, ⟨9,
    (.some 69), (.some (66, .false)), (.o (.s (.eqs .bool .true (.t 67) (.t 68))))⟩, ⟨10, (.some 70), .none, (.o (.s (.pick (.t 66) (.k (.bool .true)) (.t 69))))⟩, ⟨11,
    (.some 71), .none, (.o (.s (.mv (.t 70))))⟩, ⟨12, (.some 72), (.some (71, .false)), (.o (.s (.mv (.t 16))))⟩, ⟨13, (.some 73), (.some (71, .false)),
    (.o (.s (.mv (.t 8))))⟩, ⟨14, (.some 74), (.some (71, .false)), (.o (.s (.eqs .bool .true (.t 72) (.t 73))))⟩, ⟨15, (.some 75), .none, (.o (.s (.pick (.t 71)
    (.k (.bool .true)) (.t 74))))⟩, ⟨16, (.some 76), .none, (.o (.s (.mv (.t 75))))⟩, ⟨17, (.some 77), (.some (76, .false)), (.o (.s (.mv (.t 13))))⟩, ⟨18, (.some 78),
    (.some (76, .false)), (.o (.s (.mv (.t 7))))⟩, ⟨19, (.some 79), (.some (76, .false)), (.o (.s (.bin .neq (.t 77) (.t 78))))⟩, ⟨20, (.some 80), .none,
    (.o (.s (.pick (.t 76) (.k (.bool .true)) (.t 79))))⟩, ⟨21, (.some 81), .none, (.o (.s (.mv (.t 80))))⟩, ⟨22, (.some 82), (.some (81, .false)),
    (.o (.s (.mv (.t 15))))⟩, ⟨23, (.some 83), (.some (81, .false)), (.o (.s (.mv (.t 7))))⟩, ⟨24, (.some 84), (.some (81, .false)), (.o (.s (.bin .neq (.t 82)
    (.t 83))))⟩, ⟨25, (.some 85), .none, (.o (.s (.pick (.t 81) (.k (.bool .true)) (.t 84))))⟩]) (.cond (.t 85) (.seq (.ops 1 [⟨0, (.some 4), .none,
    (.o (.s (.mv (.k (.bool .false)))))⟩]) .ret) .skip)) (.seq (.ops 13 [⟨0, (.some 86), .none, (.o (.call 9 []))⟩, ⟨1, (.some 87), .none, (.o (.s (.mv (.t 86))))⟩, ⟨2,
    (.some 88), (.some (87, .true)), (.o (.s (.mv (.t 12))))⟩, ⟨3, (.some 89), (.some (87, .true)), (.o (.s (.un .not (.t 88))))⟩, ⟨4, (.some 90), (.some (87, .true)),
    (.o (.s (.mv (.t 89))))⟩, ⟨5, (.some 91), (.some (90, .false)), (.o (.s (.mv (.t 11))))⟩, ⟨6, (.some 92), (.some (90, .false)), (.o (.s (.mv (.t 7))))⟩, ⟨7,
    (.some 93), (.some (90, .false)), (.o (.s (.mv (.t 9))))⟩, ⟨8, (.some 94), (.some (90, .false)), (.o (.s (.bin .add (.t 92) (.t 93))))⟩, ⟨9, (.some 95), (.some (90,
    .false)), (.o (.s (.bin .eql (.t 91) (.t 94))))⟩, ⟨10, (.some 96), (.some (87, .true)), (.o (.s (.pick (.t 90) (.k (.bool .true)) (.t 95))))⟩, ⟨11, (.some 97), .none,
    (.o (.s (.pick (.t 87) (.t 96) (.k (.bool .false)))))⟩, ⟨12, (.some 4), .none, (.o (.s (.mv (.t 97))))⟩]) .ret))))))))))
noncomputable def F4b : Go.Code := Go.Proofs.Try.f4.body.getD .skip
theorem F4c : comp C [] F4b = some F4s.er := by kernel_rfl
theorem F4w : F4s.wf = true := by kernel_rfl
theorem F4d : Go.Proofs.Try.f4.body = some F4b := by kernel_rfl
@[simp] def F4q : List RV2 := [(.o (.tmp 4))]
theorem F4r : compRVs C Go.Proofs.Try.f4.results.toList = some (F4q.map RV2.er) := by kernel_rfl
theorem F4e : Enters Go.Proofs.Try.prog 4 := enters_of Go.Proofs.Try.func4 (by kernel_rfl) (by kernel_rfl)

/-- scarf/scarflaw07.DocWraps -- 0: box t1; 1: box t3 -/
def F5s : S2 :=
  (.seq (.ops 2 [⟨0, (.some 1), .none, (.lbox 0 24 (.t 0))⟩, ⟨1, (.some 2), .none, (.o (.s (.mv (.k (.bool .false)))))⟩]) (.seq (.seq (.ops 3 [⟨0, (.some 8), .none,
    (.lload 0 (.some 3) (.t 1))⟩, ⟨1, (.some 9), .none, (.o (.call 8 [(.t 8)]))⟩, ⟨2, (.some 10), .none, (.o (.s (.un .not (.t 9))))⟩]) (.cond (.t 10) (.seq (.ops 2 [⟨0,
    (.some 11), .none, (.o (.call 9 []))⟩, ⟨1, (.some 2), .none, (.o (.s (.mv (.t 11))))⟩]) .ret) .skip)) (.seq (.ops 4 [⟨0, (.some 12), .none, (.lload 0 (.some 3)
    (.t 1))⟩, ⟨1, (.some 13), .none, (.o (.call 10 [(.t 12)]))⟩, ⟨2, (.some 3), .none, (.lalloc 1 29 [(.int .i64 (0)), (.str []), .nils])⟩, ⟨3, .none, .none,
    (.lstore 1 3 (.t 3) (.t 13))⟩]) (.seq (.dops 11 [(⟨0, (.some 14), .none, (.lload 1 (.some 3) (.t 3))⟩, (.mk 1 [])), (⟨1, (.some 15), .none, (.o (.call 15 [(.t 14)]))⟩,
    (.mk 0 [])), (⟨2, (.some 16), .none, (.lload 1 (.some 3) (.t 3))⟩, (.mk 1 [])), (⟨3, (.some 17), .none, (.o (.call 17 [(.t 16)]))⟩, (.mk 0 [])), (⟨4, (.some 18),
    .none, (.o (.call 15 [(.t 17)]))⟩, (.mk 0 [])), (⟨5, (.some 19), .none, (.lload 1 (.some 3) (.t 3))⟩, (.mk 1 [])), (⟨6, (.some 20), .none, (.o (.call 18 [(.t 19)]))⟩,
    (.mk 0 [])), (⟨7, (.some 21), .none, (.o (.call 15 [(.t 20)]))⟩, (.mk 0 [])), (⟨8, (.some 4), .none, (.o (.s (.mv (.t 15))))⟩, (.mk 0 [])), (⟨9, (.some 5), .none,
    (.o (.s (.mv (.t 18))))⟩, (.mk 0 [])), (⟨10, (.some 6), .none, (.o (.s (.mv (.t 21))))⟩, (.mk 0 []))]) (.seq (.ops 3 [⟨0, (.some 22), .none, (.o (.s (.mv (.t 4))))⟩,
    ⟨1, (.some 23), .none, (.o (.s (.len (.t 22))))⟩, ⟨2, (.some 7), .none, (.o (.s (.mv (.t 23))))⟩]) (.seq (.ops 64 [⟨0, (.some 24), .none, (.o (.call 9 []))⟩, ⟨1,
    (.some 25), .none, (.o (.s (.mv (.t 24))))⟩, ⟨2, (.some 26), (.some (25, .true)), (.o (.s (.mv (.t 5))))⟩, ⟨3, (.some 27), (.some (25, .true)),
    (.o (.s (.len (.t 26))))⟩, ⟨4, (.some 28), (.some (25, .true)), (.o (.s (.mv (.t 7))))⟩, ⟨5, (.some 29), (.some (25, .true)), (.o (.s (.bin .add (.t 28)
    (.k (.int .i64 (2))))))⟩, ⟨6, (.some 30), (.some (25, .true)), (.o (.s (.bin .eql (.t 27) (.t 29))))⟩, ⟨7, (.some 31), .none, (.o (.s (.pick (.t 25) (.t 30)
    (.k (.bool .false)))))⟩, ⟨8, (.some 32), .none, (.o (.s (.mv (.t 31))))⟩, ⟨9, (.some 33), (.some (32, .true)), (.o (.s (.mv (.t 6))))⟩, ⟨10, (.some 34), (.some (32,
    .true)), (.o (.s (.len (.t 33))))⟩, ⟨11, (.some 35), (.some (32, .true)), (.o (.s (.mv (.t 7))))⟩, ⟨12, (.some 36), (.some (32, .true)), (.o (.s (.bin .add (.t 35)
    (.k (.int .i64 (2))))))⟩, ⟨13, (.some 37), (.some (32, .true)), (.o (.s (.bin .eql (.t 34) (.t 36))))⟩, ⟨14, (.some 38), .none, (.o (.s (.pick (.t 32) (.t 37)
    (.k (.bool .false)))))⟩, ⟨15, (.some 39), .none, (.o (.s (.mv (.t 38))))⟩, ⟨16, (.some 40), (.some (39, .true)), (.o (.s (.mv (.t 5))))⟩, ⟨17, (.some 41), (.some (39,
    .true)), (.o (.s (.ia 2 (.t 40) (.k (.int .i64 (0))))))⟩, ⟨18, (.some 42), (.some (39, .true)), (.o (.s (.fa 0 (.t 41))))⟩, ⟨19, (.some 43), (.some (39, .true)),
    (.o (.s (.load .none (.t 42))))⟩, ⟨20, (.some 44), (.some (39, .true)), (.o (.s (.bin .eql (.t 43) (.k (.int .i64 (5))))))⟩, ⟨21, (.some 45), .none,
    (.o (.s (.pick (.t 39) (.t 44) (.k (.bool .false)))))⟩, ⟨22, (.some 46), .none, (.o (.s (.mv (.t 45))))⟩, ⟨23, (.some 47), (.some (46, .true)),
    (.o (.s (.mv (.t 5))))⟩, ⟨24, (.some 48), (.some (46, .true)), (.o (.s (.mv (.t 7))))⟩, ⟨25, (.some 49), (.some (46, .true)), (.o (.s (.bin .add (.t 48)
    (.k (.int .i64 (1))))))⟩, ⟨26, (.some 50), (.some (46, .true)), (.o (.s (.ia 2 (.t 47) (.t 49))))⟩, ⟨27, (.some 51), (.some (46, .true)), (.o (.s (.fa 0 (.t 50))))⟩,
    ⟨28, (.some 52), (.some (46, .true)), (.o (.s (.load .none (.t 51))))⟩, ⟨29, (.some 53), (.some (46, .true)), (.o (.s (.bin .eql (.t 52) (.k (.int .i64 (6))))))⟩, ⟨30,
    (.some 54), .none, (.o (.s (.pick (.t 46) (.t 53) (.k (.bool .false)))))⟩, ⟨31, (.some 55), .none, (.o (.s (.mv (.t 54))))⟩, ⟨32, (.some 56), (.some (55, .true)),
    (.o (.s (.mv (.t 6))))⟩, ⟨33, (.some 57), (.some (55, .true)), (.o (.s (.ia 2 (.t 56) (.k (.int .i64 (0))))))⟩, ⟨34, (.some 58), (.some (55, .true)),
    (.o (.s (.fa 0 (.t 57))))⟩, ⟨35, (.some 59), (.some (55, .true)), (.o (.s (.load .none (.t 58))))⟩, ⟨36, (.some 60), (.some (55, .true)), (.o (.s (.bin .eql (.t 59)
    (.k (.int .i64 (7))))))⟩, ⟨37, (.some 61), .none, (.o (.s (.pick (.t 55) (.t 60) (.k (.bool .false)))))⟩, ⟨38, (.some 62), .none, (.o (.s (.mv (.t 61))))⟩, ⟨39,
    (.some 63), (.some (62, .true)), (.o (.s (.mv (.t 6))))⟩, ⟨40, (.some 64), (.some (62, .true)), (.o (.s (.mv (.t 7))))⟩, ⟨41, (.some 65), (.some (62, .true)),
    (.o (.s (.bin .add (.t 64) (.k (.int .i64 (1))))))⟩, ⟨42, (.some 66), (.some (62, .true)), (.o (.s (.ia 2 (.t 63) (.t 65))))⟩, ⟨43, (.some 67), (.some (62, .true)),
    (.o (.s (.fa 0 (.t 66))))⟩, ⟨44, (.some 68), (.some (62, .true)), (.o (.s (.load .none (.t 67))))⟩, ⟨45, (.some 69), (.some (62, .true)), (.o (.s (.bin .eql (.t 68)
    (.k (.int .i64 (8))))))⟩, ⟨46, (.some 70), .none, (.o (.s (.pick (.t 62) (.t 69) (.k (.bool .false)))))⟩, ⟨47, (.some 71), .none, (.o (.s (.mv (.t 70))))⟩, ⟨48,
    (.some 72), (.some (71, .true)), (.o (.s (.mv (.t 5))))⟩, ⟨49, (.some 73), (.some (71, .true)), (.o (.s (.mv (.t 7))))⟩, ⟨50, (.some 74), (.some (71, .true)),
    (.o (.s (.bin .add (.t 73) (.k (.int .i64 (1))))))⟩, ⟨51, (.some 75), (.some (71, .true)), (.o (.s (.sub 2 (.t 72) (.some (.k (.int .i64 (1)))) (.some (.t 74)))))⟩,
    ⟨52, (.some 76), (.some (71, .true)), (.o (.s (.mv (.t 4))))⟩, ⟨53, (.some 77), (.some (71, .true)), (.o (.call 19 [(.t 75), (.t 76)]))⟩, ⟨54, (.some 78), .none,
    (.o (.s (.pick (.t 71) (.t 77) (.k (.bool .false)))))⟩, ⟨55, (.some 79), .none, (.o (.s (.mv (.t 78))))⟩, ⟨56, (.some 80), (.some (79, .true)),
    (.o (.s (.mv (.t 6))))⟩, ⟨57, (.some 81), (.some (79, .true)), (.o (.s (.mv (.t 7))))⟩, ⟨58, (.some 82), (.some (79, .true)), (.o (.s (.bin .add (.t 81)
    (.k (.int .i64 (1))))))⟩, ⟨59, (.some 83), (.some (79, .true)), (.o (.s (.sub 2 (.t 80) (.some (.k (.int .i64 (1)))) (.some (.t 82)))))⟩, ⟨60, (.some 84), (.some (79,
    .true)), (.o (.s (.mv (.t 4))))⟩, ⟨61, (.some 85), (.some (79, .true)), (.o (.call 19 [(.t 83), (.t 84)]))⟩, ⟨62, (.some 86), .none, (.o (.s (.pick (.t 79) (.t 85)
    (.k (.bool .false)))))⟩, ⟨63, (.some 2), .none, (.o (.s (.mv (.t 86))))⟩]) .ret))))))
noncomputable def F5b : Go.Code := Go.Proofs.Try.f5.body.getD .skip
theorem F5c : comp C [] F5b = some F5s.er := by kernel_rfl
theorem F5w : F5s.wf = true := by kernel_rfl
theorem F5d : Go.Proofs.Try.f5.body = some F5b := by kernel_rfl
@[simp] def F5q : List RV2 := [(.o (.tmp 2))]
theorem F5r : compRVs C Go.Proofs.Try.f5.results.toList = some (F5q.map RV2.er) := by kernel_rfl
theorem F5e : Enters Go.Proofs.Try.prog 5 := enters_of Go.Proofs.Try.func5 (by kernel_rfl) (by kernel_rfl)

/-- scarf/scarflaw07.DocRows -- 0: box t4; 1: box t5; 2: box t6; 3: box t7; 4: box t9; 5: box t10; 6: box t11; 7: box t12; 8: grows t15 t63 t66 t69 t72 t96 -/
def F6s : S2 :=
  (.seq (.ops 5 [⟨0, (.some 4), .none, (.lbox 0 24 (.t 0))⟩, ⟨1, (.some 5), .none, (.lbox 1 24 (.t 1))⟩, ⟨2, (.some 6), .none, (.lbox 2 24 (.t 2))⟩, ⟨3, (.some 7), .none,
    (.lbox 3 24 (.t 3))⟩, ⟨4, (.some 8), .none, (.o (.s (.mv (.k (.bool .false)))))⟩]) (.seq (.seq (.ops 18 [⟨0, (.some 18), .none, (.lload 0 (.some 3) (.t 4))⟩, ⟨1,
    (.some 19), .none, (.o (.call 8 [(.t 18)]))⟩, ⟨2, (.some 20), .none, (.o (.s (.un .not (.t 19))))⟩, ⟨3, (.some 21), .none, (.o (.s (.mv (.t 20))))⟩, ⟨4, (.some 22),
    (.some (21, .false)), (.lload 1 (.some 3) (.t 5))⟩, ⟨5, (.some 23), (.some (21, .false)), (.o (.call 8 [(.t 22)]))⟩, ⟨6, (.some 24), (.some (21, .false)),
    (.o (.s (.un .not (.t 23))))⟩, ⟨7, (.some 25), .none, (.o (.s (.pick (.t 21) (.k (.bool .true)) (.t 24))))⟩, ⟨8, (.some 26), .none, (.o (.s (.mv (.t 25))))⟩, ⟨9,
    (.some 27), (.some (26, .false)), (.lload 2 (.some 3) (.t 6))⟩, ⟨10, (.some 28), (.some (26, .false)), (.o (.call 8 [(.t 27)]))⟩, ⟨11, (.some 29), (.some (26,
    .false)), (.o (.s (.un .not (.t 28))))⟩, ⟨12, (.some 30), .none, (.o (.s (.pick (.t 26) (.k (.bool .true)) (.t 29))))⟩, ⟨13, (.some 31), .none,
    (.o (.s (.mv (.t 30))))⟩, ⟨14, (.some 32), (.some (31, .false)), (.lload 3 (.some 3) (.t 7))⟩, ⟨15, (.some 33), (.some (31, .false)), (.o (.call 8 [(.t 32)]))⟩, ⟨16,
    (.some 34), (.some (31, .false)), (.o (.s (.un .not (.t 33))))⟩, ⟨17, (.some 35), .none, (.o (.s (.pick (.t 31) (.k (.bool .true)) (.t 34))))⟩]) (.cond (.t 35)
    (.seq (.ops 2 [⟨0, (.some 36), .none, (.o (.call 9 []))⟩, ⟨1, (.some 8), .none, (.o (.s (.mv (.t 36))))⟩]) .ret) .skip)) (.seq (.dops 16 [(⟨0, (.some 37), .none,
    (.lload 0 (.some 3) (.t 4))⟩, (.mk 1 [])), (⟨1, (.some 38), .none, (.o (.call 10 [(.t 37)]))⟩, (.mk 0 [])), (⟨2, (.some 39), .none, (.lload 1 (.some 3) (.t 5))⟩,
    (.mk 1 [])), (⟨3, (.some 40), .none, (.o (.call 10 [(.t 39)]))⟩, (.mk 0 [])), (⟨4, (.some 41), .none, (.lload 2 (.some 3) (.t 6))⟩, (.mk 1 [])), (⟨5, (.some 42),
    .none, (.o (.call 10 [(.t 41)]))⟩, (.mk 0 [])), (⟨6, (.some 43), .none, (.lload 3 (.some 3) (.t 7))⟩, (.mk 1 [])), (⟨7, (.some 44), .none, (.o (.call 10 [(.t 43)]))⟩,
    (.mk 0 [])), (⟨8, (.some 9), .none, (.lalloc 4 29 [(.int .i64 (0)), (.str []), .nils])⟩, (.mk 0 [8])), (⟨9, (.some 10), .none, (.lalloc 5 29 [(.int .i64 (0)),
    (.str []), .nils])⟩, (.mk 0 [9])), (⟨10, (.some 11), .none, (.lalloc 6 29 [(.int .i64 (0)), (.str []), .nils])⟩, (.mk 0 [10])), (⟨11, (.some 12), .none,
    (.lalloc 7 29 [(.int .i64 (0)), (.str []), .nils])⟩, (.mk 0 [11])), (⟨12, .none, .none, (.lstore 4 3 (.t 9) (.t 38))⟩, (.mk 0 [8])), (⟨13, .none, .none,
    (.lstore 5 3 (.t 10) (.t 40))⟩, (.mk 0 [9])), (⟨14, .none, .none, (.lstore 6 3 (.t 11) (.t 42))⟩, (.mk 0 [10])), (⟨15, .none, .none, (.lstore 7 3 (.t 12) (.t 44))⟩,
    (.mk 0 [11]))]) (.seq (.dops 9 [(⟨0, (.some 45), .none, (.lload 4 (.some 3) (.t 9))⟩, (.mk 1 [])), (⟨1, (.some 46), .none, (.lload 5 (.some 3) (.t 10))⟩, (.mk 1 [])),
    (⟨4, (.some 49), .none, (.lload 6 (.some 3) (.t 11))⟩, (.mk 1 [])), (⟨2, (.some 47), .none, (.lbsl 9 29 3 2 [(.int .i64 (0)), (.str []), .nils] [(0, (.t 45)), (1,
    (.t 46))] .false)⟩, (.mk 0 [2])), (⟨3, (.some 48), .none, (.o (.call 16 [(.t 47)]))⟩, (.mk 0 [])), (⟨5, (.some 50), .none, (.lbsl 9 29 3 2 [(.int .i64 (0)), (.str []),
    .nils] [(0, (.t 48)), (1, (.t 49))] .false)⟩, (.mk 0 [5])), (⟨6, (.some 51), .none, (.o (.call 16 [(.t 50)]))⟩, (.mk 0 [])), (⟨7, (.some 52), .none,
    (.o (.call 15 [(.t 51)]))⟩, (.mk 0 [])), (⟨8, (.some 13), .none, (.o (.s (.mv (.t 52))))⟩, (.mk 0 []))]) (.seq (.dops 11 [(⟨1, (.some 54), .none,
    (.o (.s (.build [(.int .i64 (0)), (.str []), .nils] [])))⟩, (.mk 0 [])), (⟨0, (.some 53), .none, (.lload 4 (.some 3) (.t 9))⟩, (.mk 1 [])), (⟨2, (.some 55), .none,
    (.lload 5 (.some 3) (.t 10))⟩, (.mk 1 [])), (⟨3, (.some 56), .none, (.lload 6 (.some 3) (.t 11))⟩, (.mk 1 [])), (⟨4, (.some 57), .none,
    (.lbsl 9 29 3 2 [(.int .i64 (0)), (.str []), .nils] [(0, (.t 55)), (1, (.t 56))] .false)⟩, (.mk 0 [4])), (⟨5, (.some 58), .none, (.o (.call 16 [(.t 57)]))⟩,
    (.mk 0 [])), (⟨6, (.some 59), .none, (.o (.call 16 [(.k .nils)]))⟩, (.mk 0 [])), (⟨7, (.some 60), .none, (.lbsl 9 29 3 4 [(.int .i64 (0)), (.str []), .nils] [(0,
    (.t 53)), (1, (.t 54)), (2, (.t 58)), (3, (.t 59))] .false)⟩, (.mk 0 [7])), (⟨8, (.some 61), .none, (.o (.call 16 [(.t 60)]))⟩, (.mk 0 [])), (⟨9, (.some 62), .none,
    (.o (.call 15 [(.t 61)]))⟩, (.mk 0 [])), (⟨10, (.some 14), .none, (.o (.s (.mv (.t 62))))⟩, (.mk 0 []))]) (.seq (.dops 11 [(⟨1, (.some 64), .none, (.lload 4 (.some 3)
    (.t 9))⟩, (.mk 1 [])), (⟨2, (.some 65), .none, (.o (.call 15 [(.t 64)]))⟩, (.mk 0 [])), (⟨4, (.some 67), .none, (.lload 5 (.some 3) (.t 10))⟩, (.mk 1 [])), (⟨7,
    (.some 70), .none, (.lload 6 (.some 3) (.t 11))⟩, (.mk 1 [])), (⟨0, (.some 63), .none, (.lbsl 8 43 2 0 [(.int .i64 (0)), (.str [])] [] .false)⟩, (.mk 0 [0])), (⟨3,
    (.some 66), .none, (.lapp 8 43 2 24 (.t 63) (.t 65))⟩, (.mk 1 [0, 3])), (⟨5, (.some 68), .none, (.o (.call 15 [(.t 67)]))⟩, (.mk 0 [])), (⟨6, (.some 69), .none,
    (.lapp 8 43 2 24 (.t 66) (.t 68))⟩, (.mk 1 [3, 6])), (⟨8, (.some 71), .none, (.o (.call 15 [(.t 70)]))⟩, (.mk 0 [])), (⟨9, (.some 72), .none, (.lapp 8 43 2 24 (.t 69)
    (.t 71))⟩, (.mk 1 [6, 9])), (⟨10, (.some 15), .none, (.o (.s (.mv (.t 72))))⟩, (.mk 0 []))]) (.seq (.ops 8 [⟨0, (.some 73), .none, (.lload 7 (.some 3) (.t 12))⟩, ⟨1,
    (.some 74), .none, (.lload 4 (.some 3) (.t 9))⟩, ⟨2, (.some 75), .none, (.lload 5 (.some 3) (.t 10))⟩, ⟨3, (.some 76), .none, (.lload 6 (.some 3) (.t 11))⟩, ⟨4,
    (.some 77), .none, (.lbsl 9 29 3 3 [(.int .i64 (0)), (.str []), .nils] [(0, (.t 74)), (1, (.t 75)), (2, (.t 76))] .false)⟩, ⟨5, (.some 78), .none,
    (.o (.call 20 [(.t 73), (.t 77)]))⟩, ⟨6, (.some 79), .none, (.o (.call 15 [(.t 78)]))⟩, ⟨7, (.some 16), .none, (.o (.s (.mv (.t 79))))⟩]) (.seq (.ops 9 [⟨0,
    (.some 80), .none, (.lload 4 (.some 3) (.t 9))⟩, ⟨1, (.some 81), .none, (.lload 7 (.some 3) (.t 12))⟩, ⟨2, (.some 82), .none, (.lload 5 (.some 3) (.t 10))⟩, ⟨3,
    (.some 83), .none, (.lload 7 (.some 3) (.t 12))⟩, ⟨4, (.some 84), .none, (.lload 6 (.some 3) (.t 11))⟩, ⟨5, (.some 85), .none, (.lbsl 9 29 3 5 [(.int .i64 (0)),
    (.str []), .nils] [(0, (.t 80)), (1, (.t 81)), (2, (.t 82)), (3, (.t 83)), (4, (.t 84))] .false)⟩, ⟨6, (.some 86), .none, (.o (.call 16 [(.t 85)]))⟩, ⟨7, (.some 87),
    .none, (.o (.call 15 [(.t 86)]))⟩, ⟨8, (.some 17), .none, (.o (.s (.mv (.t 87))))⟩]) (.seq (.dops 34 [(⟨0, (.some 88), .none, (.o (.call 9 []))⟩, (.mk 0 [])), (⟨1,
    (.some 89), .none, (.o (.s (.mv (.t 88))))⟩, (.mk 0 [])), (⟨2, (.some 90), (.some (89, .true)), (.o (.s (.mv (.t 13))))⟩, (.mk 0 [])), (⟨3, (.some 91), (.some (89,
    .true)), (.o (.s (.mv (.t 14))))⟩, (.mk 0 [])), (⟨4, (.some 92), (.some (89, .true)), (.o (.call 19 [(.t 90), (.t 91)]))⟩, (.mk 0 [])), (⟨5, (.some 93), .none,
    (.o (.s (.pick (.t 89) (.t 92) (.k (.bool .false)))))⟩, (.mk 0 [])), (⟨6, (.some 94), .none, (.o (.s (.mv (.t 93))))⟩, (.mk 0 [])), (⟨7, (.some 95), (.some (94,
    .true)), (.o (.s (.mv (.t 13))))⟩, (.mk 0 [])), (⟨8, (.some 96), (.some (94, .true)), (.o (.s (.mv (.t 15))))⟩, (.mk 0 [])), (⟨9, (.some 97), (.some (94, .true)),
    (.o (.call 19 [(.t 95), (.t 96)]))⟩, (.mk 0 [])), (⟨10, (.some 98), .none, (.o (.s (.pick (.t 94) (.t 97) (.k (.bool .false)))))⟩, (.mk 0 [])), (⟨11, (.some 99),
    .none, (.o (.s (.mv (.t 98))))⟩, (.mk 0 [])), (⟨12, (.some 100), (.some (99, .true)), (.o (.s (.mv (.t 16))))⟩, (.mk 0 [])), (⟨13, (.some 101), (.some (99, .true)),
    (.o (.s (.mv (.t 17))))⟩, (.mk 0 [])), (⟨14, (.some 102), (.some (99, .true)), (.o (.call 19 [(.t 100), (.t 101)]))⟩, (.mk 0 [])), (⟨15, (.some 103), .none,
    (.o (.s (.pick (.t 99) (.t 102) (.k (.bool .false)))))⟩, (.mk 0 [])), (⟨16, (.some 104), .none, (.o (.s (.mv (.t 103))))⟩, (.mk 0 [])), (⟨17, (.some 105), (.some (104,
    .true)), (.lload 7 (.some 3) (.t 12))⟩, (.mk 1 [])), (⟨18, (.some 106), (.some (104, .true)), (.o (.call 20 [(.t 105), (.k .nils)]))⟩, (.mk 0 [])), (⟨19, (.some 107),
    (.some (104, .true)), (.o (.call 15 [(.t 106)]))⟩, (.mk 0 [])), (⟨20, (.some 108), (.some (104, .true)), (.o (.s (.len (.t 107))))⟩, (.mk 0 [])), (⟨21, (.some 109),
    (.some (104, .true)), (.o (.s (.bin .eql (.t 108) (.k (.int .i64 (0))))))⟩, (.mk 0 [])), (⟨22, (.some 110), .none, (.o (.s (.pick (.t 104) (.t 109)
    (.k (.bool .false)))))⟩, (.mk 0 [])), (⟨23, (.some 111), .none, (.o (.s (.mv (.t 110))))⟩, (.mk 0 [])), (⟨24, (.some 112), (.some (111, .true)), (.lload 7 (.some 3)
    (.t 12))⟩, (.mk 1 [])), (⟨25, (.some 113), (.some (111, .true)), (.lload 4 (.some 3) (.t 9))⟩, (.mk 1 [])), (⟨29, (.some 117), (.some (111, .true)),
    (.lload 4 (.some 3) (.t 9))⟩, (.mk 1 [])), (⟨26, (.some 114), (.some (111, .true)), (.lbsl 9 29 3 1 [(.int .i64 (0)), (.str []), .nils] [(0, (.t 113))] .false)⟩,
    (.mk 0 [26])), (⟨27, (.some 115), (.some (111, .true)), (.o (.call 20 [(.t 112), (.t 114)]))⟩, (.mk 0 [])), (⟨28, (.some 116), (.some (111, .true)),
    (.o (.call 15 [(.t 115)]))⟩, (.mk 0 [])), (⟨30, (.some 118), (.some (111, .true)), (.o (.call 15 [(.t 117)]))⟩, (.mk 0 [])), (⟨31, (.some 119), (.some (111, .true)),
    (.o (.call 19 [(.t 116), (.t 118)]))⟩, (.mk 0 [])), (⟨32, (.some 120), .none, (.o (.s (.pick (.t 111) (.t 119) (.k (.bool .false)))))⟩, (.mk 0 [])), (⟨33, (.some 8),
    .none, (.o (.s (.mv (.t 120))))⟩, (.mk 0 []))]) .ret)))))))))
noncomputable def F6b : Go.Code := Go.Proofs.Try.f6.body.getD .skip
theorem F6c : comp C [] F6b = some F6s.er := by kernel_rfl
theorem F6w : F6s.wf = true := by kernel_rfl
theorem F6d : Go.Proofs.Try.f6.body = some F6b := by kernel_rfl
@[simp] def F6q : List RV2 := [(.o (.tmp 8))]
theorem F6r : compRVs C Go.Proofs.Try.f6.results.toList = some (F6q.map RV2.er) := by kernel_rfl
theorem F6e : Enters Go.Proofs.Try.prog 6 := enters_of Go.Proofs.Try.func6 (by kernel_rfl) (by kernel_rfl)

/-- scarf/scarflaw07.DocKeeps -- 0: box t1; 1: box t3; 2: box t6; 3: box t7 -/
def F7l0 : S2 :=
  (.seq (.seq (.ops 4 [⟨0, (.some 48), .none, (.o (.s (.mv (.t 11))))⟩, ⟨1, (.some 49), .none, (.o (.s (.mv (.t 10))))⟩, ⟨2, (.some 50), .none, (.o (.s (.len (.t 49))))⟩,
    ⟨3, (.some 51), .none, (.o (.s (.bin .lss (.t 48) (.t 50))))⟩]) (.cond (.t 51) .skip (.exit 0))) (.seq (.block 1 (.ops 11 [⟨0, (.some 54), .none,
    (.o (.s (.mv (.t 10))))⟩, ⟨1, (.some 55), .none, (.o (.s (.mv (.t 11))))⟩, ⟨2, (.some 56), .none, (.o (.s (.mv (.t 10))))⟩, ⟨3, (.some 57), .none,
    (.o (.s (.mv (.t 11))))⟩, ⟨4, (.some 58), .none, (.o (.s (.ia 2 (.t 56) (.t 57))))⟩, ⟨5, (.some 59), .none, (.o (.s (.fa 1 (.t 58))))⟩, ⟨6, (.some 60), .none,
    (.o (.s (.load .none (.t 59))))⟩, ⟨7, (.some 61), .none, (.o (.s (.bin .add (.t 60) (.k (.str [63])))))⟩, ⟨8, (.some 62), .none, (.o (.s (.ia 2 (.t 54) (.t 55))))⟩,
    ⟨9, (.some 63), .none, (.o (.s (.fa 1 (.t 62))))⟩, ⟨10, .none, .none, (.o (.s (.store 1 (.t 63) (.t 61))))⟩])) (.ops 3 [⟨0, (.some 52), .none,
    (.o (.s (.mv (.t 11))))⟩, ⟨1, (.some 53), .none, (.o (.s (.bin .add (.t 52) (.k (.int .i64 (1))))))⟩, ⟨2, (.some 11), .none, (.o (.s (.mv (.t 53))))⟩])))
theorem F7l0w : F7l0.wf = true := by kernel_rfl
def F7s : S2 :=
  (.seq (.ops 2 [⟨0, (.some 1), .none, (.lbox 0 24 (.t 0))⟩, ⟨1, (.some 2), .none, (.o (.s (.mv (.k (.bool .false)))))⟩]) (.seq (.seq (.ops 3 [⟨0, (.some 12), .none,
    (.lload 0 (.some 3) (.t 1))⟩, ⟨1, (.some 13), .none, (.o (.call 8 [(.t 12)]))⟩, ⟨2, (.some 14), .none, (.o (.s (.un .not (.t 13))))⟩]) (.cond (.t 14)
    (.seq (.ops 2 [⟨0, (.some 15), .none, (.o (.call 9 []))⟩, ⟨1, (.some 2), .none, (.o (.s (.mv (.t 15))))⟩]) .ret) .skip)) (.seq (.ops 4 [⟨0, (.some 16), .none,
    (.lload 0 (.some 3) (.t 1))⟩, ⟨1, (.some 17), .none, (.o (.call 10 [(.t 16)]))⟩, ⟨2, (.some 3), .none, (.lalloc 1 29 [(.int .i64 (0)), (.str []), .nils])⟩, ⟨3, .none,
    .none, (.lstore 1 3 (.t 3) (.t 17))⟩]) (.seq (.ops 3 [⟨0, (.some 18), .none, (.lload 1 (.some 3) (.t 3))⟩, ⟨1, (.some 19), .none, (.o (.call 15 [(.t 18)]))⟩, ⟨2,
    (.some 4), .none, (.o (.s (.mv (.t 19))))⟩]) (.seq (.dops 5 [(⟨1, (.some 21), .none, (.o (.call 21 [(.k (.str [120]))]))⟩, (.mk 0 [])), (⟨0, (.some 20), .none,
    (.lload 1 (.some 3) (.t 3))⟩, (.mk 1 [])), (⟨2, (.some 22), .none, (.lload 1 (.some 3) (.t 3))⟩, (.mk 1 [])), (⟨3, (.some 23), .none,
    (.o (.s (.bslice 29 3 3 [(.int .i64 (0)), (.str []), .nils] [(0, (.t 20)), (1, (.t 21)), (2, (.t 22))] .true)))⟩, (.mk 0 [3])), (⟨4, (.some 5), .none,
    (.o (.s (.mv (.t 23))))⟩, (.mk 0 []))]) (.seq (.ops 4 [⟨0, (.some 24), .none, (.o (.s (.mv (.t 5))))⟩, ⟨1, (.some 25), .none, (.o (.call 16 [(.t 24)]))⟩, ⟨2,
    (.some 6), .none, (.lalloc 2 29 [(.int .i64 (0)), (.str []), .nils])⟩, ⟨3, .none, .none, (.lstore 2 3 (.t 6) (.t 25))⟩]) (.seq (.ops 5 [⟨0, (.some 26), .none,
    (.o (.call 22 []))⟩, ⟨1, (.some 27), .none, (.o (.s (.mv (.t 5))))⟩, ⟨2, (.some 28), .none, (.o (.call 20 [(.t 26), (.t 27)]))⟩, ⟨3, (.some 7), .none,
    (.lalloc 3 29 [(.int .i64 (0)), (.str []), .nils])⟩, ⟨4, .none, .none, (.lstore 3 3 (.t 7) (.t 28))⟩]) (.seq (.dops 6 [(⟨0, (.some 29), .none, (.lload 2 (.some 3)
    (.t 6))⟩, (.mk 1 [])), (⟨1, (.some 30), .none, (.o (.call 15 [(.t 29)]))⟩, (.mk 0 [])), (⟨2, (.some 31), .none, (.lload 3 (.some 3) (.t 7))⟩, (.mk 1 [])), (⟨3,
    (.some 32), .none, (.o (.call 15 [(.t 31)]))⟩, (.mk 0 [])), (⟨4, (.some 8), .none, (.o (.s (.mv (.t 30))))⟩, (.mk 0 [])), (⟨5, (.some 9), .none,
    (.o (.s (.mv (.t 32))))⟩, (.mk 0 []))]) (.seq (.ops 8 [⟨0, (.some 33), .none, (.o (.s (.mv (.t 5))))⟩, ⟨1, (.some 34), .none, (.o (.s (.mv (.t 5))))⟩, ⟨2, (.some 35),
    .none, (.o (.call 23 []))⟩, ⟨3, (.some 36), .none, (.o (.call 23 []))⟩, ⟨4, (.some 37), .none, (.o (.s (.ia 3 (.t 33) (.k (.int .i64 (0))))))⟩, ⟨5, .none, .none,
    (.o (.s (.store 3 (.t 37) (.t 35))))⟩, ⟨6, (.some 38), .none, (.o (.s (.ia 3 (.t 34) (.k (.int .i64 (1))))))⟩, ⟨7, .none, .none, (.o (.s (.store 3 (.t 38)
    (.t 36))))⟩]) (.seq (.ops 2 [⟨0, (.some 39), .none, (.lload 1 (.some 3) (.t 3))⟩, ⟨1, (.some 40), .none, (.o (.call 17 [(.t 39)]))⟩]) (.seq (.ops 5 [⟨0, (.some 41),
    .none, (.lload 1 (.some 3) (.t 3))⟩, ⟨1, (.some 42), .none, (.lload 1 (.some 3) (.t 3))⟩, ⟨2, (.some 43), .none, (.lbsl 4 29 3 2 [(.int .i64 (0)), (.str []), .nils]
    [(0, (.t 41)), (1, (.t 42))] .false)⟩, ⟨3, (.some 44), .none, (.o (.call 16 [(.t 43)]))⟩, ⟨4, (.some 45), .none, (.o (.call 18 [(.t 44)]))⟩]) (.seq (.ops 3 [⟨0,
    (.some 46), .none, (.lload 1 (.some 3) (.t 3))⟩, ⟨1, (.some 47), .none, (.o (.call 15 [(.t 46)]))⟩, ⟨2, (.some 10), .none, (.o (.s (.mv (.t 47))))⟩])
    (.seq (.seq (.ops 1 [⟨0, (.some 11), .none, (.o (.s (.mv (.k (.int .i64 (0))))))⟩]) (.block 0 (.loop F7l0))) (.seq (.ops 20 [⟨0, (.some 64), .none, (.o (.call 9 []))⟩,
    ⟨1, (.some 65), .none, (.o (.s (.mv (.t 64))))⟩, ⟨2, (.some 66), (.some (65, .true)), (.lload 1 (.some 3) (.t 3))⟩, ⟨3, (.some 67), (.some (65, .true)),
    (.o (.call 15 [(.t 66)]))⟩, ⟨4, (.some 68), (.some (65, .true)), (.o (.s (.mv (.t 4))))⟩, ⟨5, (.some 69), (.some (65, .true)), (.o (.call 19 [(.t 67), (.t 68)]))⟩, ⟨6,
    (.some 70), .none, (.o (.s (.pick (.t 65) (.t 69) (.k (.bool .false)))))⟩, ⟨7, (.some 71), .none, (.o (.s (.mv (.t 70))))⟩, ⟨8, (.some 72), (.some (71, .true)),
    (.lload 2 (.some 3) (.t 6))⟩, ⟨9, (.some 73), (.some (71, .true)), (.o (.call 15 [(.t 72)]))⟩, ⟨10, (.some 74), (.some (71, .true)), (.o (.s (.mv (.t 8))))⟩, ⟨11,
    (.some 75), (.some (71, .true)), (.o (.call 19 [(.t 73), (.t 74)]))⟩, ⟨12, (.some 76), .none, (.o (.s (.pick (.t 71) (.t 75) (.k (.bool .false)))))⟩, ⟨13, (.some 77),
    .none, (.o (.s (.mv (.t 76))))⟩, ⟨14, (.some 78), (.some (77, .true)), (.lload 3 (.some 3) (.t 7))⟩, ⟨15, (.some 79), (.some (77, .true)), (.o (.call 15 [(.t 78)]))⟩,
    ⟨16, (.some 80), (.some (77, .true)), (.o (.s (.mv (.t 9))))⟩, ⟨17, (.some 81), (.some (77, .true)), (.o (.call 19 [(.t 79), (.t 80)]))⟩, ⟨18, (.some 82), .none,
    (.o (.s (.pick (.t 77) (.t 81) (.k (.bool .false)))))⟩, ⟨19, (.some 2), .none, (.o (.s (.mv (.t 82))))⟩]) .ret))))))))))))))
noncomputable def F7b : Go.Code := Go.Proofs.Try.f7.body.getD .skip
theorem F7c : comp C [(5, 3)] F7b = some F7s.er := by kernel_rfl
theorem F7w : F7s.wf = true := by kernel_rfl
theorem F7d : Go.Proofs.Try.f7.body = some F7b := by kernel_rfl
@[simp] def F7q : List RV2 := [(.o (.tmp 2))]
theorem F7r : compRVs C Go.Proofs.Try.f7.results.toList = some (F7q.map RV2.er) := by kernel_rfl
theorem F7e : Enters Go.Proofs.Try.prog 7 := enters_of Go.Proofs.Try.func7 (by kernel_rfl) (by kernel_rfl)

/-- scarf/scarflaw07.Few -- 0: box t1 -/
def F8l0 : S2 :=
  (.seq (.seq (.ops 4 [⟨0, (.some 8), .none, (.o (.s (.mv (.t 5))))⟩, ⟨1, (.some 9), .none, (.o (.s (.mv (.t 3))))⟩, ⟨2, (.some 10), .none, (.o (.s (.len (.t 9))))⟩, ⟨3,
    (.some 11), .none, (.o (.s (.bin .lss (.t 8) (.t 10))))⟩]) (.cond (.t 11) .skip (.exit 0))) (.seq (.block 1 (.seq (.ops 10 [⟨0, (.some 14), .none,
    (.o (.s (.mv (.t 4))))⟩, ⟨1, (.some 15), .none, (.o (.s (.mv (.t 3))))⟩, ⟨2, (.some 16), .none, (.o (.s (.mv (.t 5))))⟩, ⟨3, (.some 17), .none, (.o (.s (.ia 2 (.t 15)
    (.t 16))))⟩, ⟨4, (.some 18), .none, (.o (.s (.fa 1 (.t 17))))⟩, ⟨5, (.some 19), .none, (.o (.s (.load .none (.t 18))))⟩, ⟨6, (.some 20), .none,
    (.o (.s (.lens (.t 19))))⟩, ⟨7, (.some 21), .none, (.o (.s (.mn (.t 20) (.k (.int .i64 (10000))))))⟩, ⟨8, (.some 22), .none, (.o (.s (.bin .add (.t 14) (.t 21))))⟩,
    ⟨9, (.some 4), .none, (.o (.s (.mv (.t 22))))⟩]) (.seq (.ops 2 [⟨0, (.some 23), .none, (.o (.s (.mv (.t 4))))⟩, ⟨1, (.some 24), .none, (.o (.s (.bin .gtr (.t 23)
    (.k (.int .i64 (20000))))))⟩]) (.cond (.t 24) (.seq (.ops 1 [⟨0, (.some 2), .none, (.o (.s (.mv (.k (.bool .false)))))⟩]) .ret) .skip)))) (.ops 3 [⟨0, (.some 12),
    .none, (.o (.s (.mv (.t 5))))⟩, ⟨1, (.some 13), .none, (.o (.s (.bin .add (.t 12) (.k (.int .i64 (1))))))⟩, ⟨2, (.some 5), .none, (.o (.s (.mv (.t 13))))⟩])))
theorem F8l0w : F8l0.wf = true := by kernel_rfl
def F8s : S2 :=
  (.seq (.ops 2 [⟨0, (.some 1), .none, (.lbox 0 24 (.t 0))⟩, ⟨1, (.some 2), .none, (.o (.s (.mv (.k (.bool .false)))))⟩]) (.seq (.ops 3 [⟨0, (.some 6), .none,
    (.lload 0 (.some 3) (.t 1))⟩, ⟨1, (.some 7), .none, (.o (.call 11 [(.t 6), (.k (.int .i64 (1000)))]))⟩, ⟨2, (.some 3), .none, (.o (.s (.mv (.t 7))))⟩])
    (.seq (.ops 1 [⟨0, (.some 4), .none, (.o (.s (.mv (.k (.int .i64 (0))))))⟩]) (.seq (.seq (.ops 1 [⟨0, (.some 5), .none, (.o (.s (.mv (.k (.int .i64 (0))))))⟩])
    (.block 0 (.loop F8l0))) (.seq (.ops 4 [⟨0, (.some 25), .none, (.lload 0 (.some 3) (.t 1))⟩, ⟨1, (.some 26), .none, (.o (.call 24 [(.t 25), (.k (.int .i64 (400)))]))⟩,
    ⟨2, (.some 27), .none, (.o (.s (.bin .lss (.t 26) (.k (.int .i64 (400))))))⟩, ⟨3, (.some 2), .none, (.o (.s (.mv (.t 27))))⟩]) .ret)))))
noncomputable def F8b : Go.Code := Go.Proofs.Try.f8.body.getD .skip
theorem F8c : comp C [] F8b = some F8s.er := by kernel_rfl
theorem F8w : F8s.wf = true := by kernel_rfl
theorem F8d : Go.Proofs.Try.f8.body = some F8b := by kernel_rfl
@[simp] def F8q : List RV2 := [(.o (.tmp 2))]
theorem F8r : compRVs C Go.Proofs.Try.f8.results.toList = some (F8q.map RV2.er) := by kernel_rfl
theorem F8e : Enters Go.Proofs.Try.prog 8 := enters_of Go.Proofs.Try.func8 (by kernel_rfl) (by kernel_rfl)

/-- scarf/scarflaw07.known -- 0: box t1 -/
def F9s : S2 :=
  (.seq (.ops 1 [⟨0, (.some 0), .none, (.o (.s (.mv (.k (.bool .false)))))⟩]) (.seq (.ops 13 [⟨0, (.some 6), .none, (.o (.call 21 [(.k (.str [102, 40]))]))⟩, ⟨1, (.some 7),
    .none, (.o (.call 25 []))⟩, ⟨2, (.some 8), .none, (.o (.call 21 [(.k (.str [97, 44]))]))⟩, ⟨3, (.some 9), .none, (.o (.call 22 []))⟩, ⟨4, (.some 10), .none,
    (.o (.call 21 [(.k (.str [98]))]))⟩, ⟨5, (.some 11), .none, (.lbsl 1 29 3 4 [(.int .i64 (0)), (.str []), .nils] [(0, (.t 7)), (1, (.t 8)), (2, (.t 9)), (3, (.t 10))]
    .false)⟩, ⟨6, (.some 12), .none, (.o (.call 16 [(.t 11)]))⟩, ⟨7, (.some 13), .none, (.o (.call 17 [(.t 12)]))⟩, ⟨8, (.some 14), .none,
    (.o (.call 21 [(.k (.str [41]))]))⟩, ⟨9, (.some 15), .none, (.lbsl 1 29 3 3 [(.int .i64 (0)), (.str []), .nils] [(0, (.t 6)), (1, (.t 13)), (2, (.t 14))] .false)⟩,
    ⟨10, (.some 16), .none, (.o (.call 16 [(.t 15)]))⟩, ⟨11, (.some 1), .none, (.lalloc 0 29 [(.int .i64 (0)), (.str []), .nils])⟩, ⟨12, .none, .none, (.lstore 0 3 (.t 1)
    (.t 16))⟩]) (.seq (.ops 7 [⟨0, (.some 18), .none, (.lload 0 (.some 3) (.t 1))⟩, ⟨1, (.some 19), .none, (.o (.call 12 [(.t 18)]))⟩, ⟨2, (.some 17), .none,
    (.o (.s (.mv (.t 19))))⟩, ⟨3, (.some 20), .none, (.o (.s (.ext (.t 17) 0)))⟩, ⟨4, (.some 21), .none, (.o (.s (.ext (.t 17) 1)))⟩, ⟨5, (.some 2), .none,
    (.o (.s (.mv (.t 20))))⟩, ⟨6, (.some 3), .none, (.o (.s (.mv (.t 21))))⟩]) (.seq (.dops 10 [(⟨1, (.some 24), .none, (.o (.call 23 []))⟩, (.mk 0 [])), (⟨0, (.some 23),
    .none, (.lload 0 (.some 3) (.t 1))⟩, (.mk 1 [])), (⟨2, (.some 25), .none, (.lbsl 1 29 3 2 [(.int .i64 (0)), (.str []), .nils] [(0, (.t 23)), (1, (.t 24))] .false)⟩,
    (.mk 0 [2])), (⟨3, (.some 26), .none, (.o (.call 16 [(.t 25)]))⟩, (.mk 0 [])), (⟨4, (.some 27), .none, (.o (.call 12 [(.t 26)]))⟩, (.mk 0 [])), (⟨5, (.some 22), .none,
    (.o (.s (.mv (.t 27))))⟩, (.mk 0 [])), (⟨6, (.some 28), .none, (.o (.s (.ext (.t 22) 0)))⟩, (.mk 0 [])), (⟨7, (.some 29), .none, (.o (.s (.ext (.t 22) 1)))⟩,
    (.mk 0 [])), (⟨8, (.some 4), .none, (.o (.s (.mv (.t 28))))⟩, (.mk 0 [])), (⟨9, (.some 5), .none, (.o (.s (.mv (.t 29))))⟩, (.mk 0 []))]) (.seq (.ops 16 [⟨0,
    (.some 30), .none, (.o (.s (.mv (.t 3))))⟩, ⟨1, (.some 31), .none, (.o (.s (.mv (.t 30))))⟩, ⟨2, (.some 32), (.some (31, .true)), (.o (.s (.mv (.t 2))))⟩, ⟨3,
    (.some 33), (.some (31, .true)), (.o (.s (.bin .eql (.t 32) (.k (.str [102, 40, 97, 44, 32, 98, 41])))))⟩, ⟨4, (.some 34), .none, (.o (.s (.pick (.t 31) (.t 33)
    (.k (.bool .false)))))⟩, ⟨5, (.some 35), .none, (.o (.s (.mv (.t 34))))⟩, ⟨6, (.some 36), (.some (35, .true)), (.lload 0 (.some 3) (.t 1))⟩, ⟨7, (.some 37),
    (.some (35, .true)), (.o (.call 15 [(.t 36)]))⟩, ⟨8, (.some 38), (.some (35, .true)), (.o (.s (.len (.t 37))))⟩, ⟨9, (.some 39), (.some (35, .true)),
    (.o (.s (.bin .eql (.t 38) (.k (.int .i64 (8))))))⟩, ⟨10, (.some 40), .none, (.o (.s (.pick (.t 35) (.t 39) (.k (.bool .false)))))⟩, ⟨11, (.some 41), .none,
    (.o (.s (.mv (.t 40))))⟩, ⟨12, (.some 42), (.some (41, .true)), (.o (.s (.mv (.t 5))))⟩, ⟨13, (.some 43), (.some (41, .true)), (.o (.s (.un .not (.t 42))))⟩, ⟨14,
    (.some 44), .none, (.o (.s (.pick (.t 41) (.t 43) (.k (.bool .false)))))⟩, ⟨15, (.some 0), .none, (.o (.s (.mv (.t 44))))⟩]) .ret)))))
noncomputable def F9b : Go.Code := Go.Proofs.Try.f9.body.getD .skip
theorem F9c : comp C [] F9b = some F9s.er := by kernel_rfl
theorem F9w : F9s.wf = true := by kernel_rfl
theorem F9d : Go.Proofs.Try.f9.body = some F9b := by kernel_rfl
@[simp] def F9q : List RV2 := [(.o (.tmp 0))]
theorem F9r : compRVs C Go.Proofs.Try.f9.results.toList = some (F9q.map RV2.er) := by kernel_rfl
theorem F9e : Enters Go.Proofs.Try.prog 9 := enters_of Go.Proofs.Try.func9 (by kernel_rfl) (by kernel_rfl)

/-- scarf/scarflaw07.Built -- 0: box t1; 1: box t2; 2: grows t3 t28 t36 t41 t46 t49 -/
def F10l0 : S2 :=
  (.seq (.seq (.ops 5 [⟨0, (.some 21), .none, (.o (.s (.mv (.t 4))))⟩, ⟨1, (.some 22), .none, (.o (.s (.fa 2 (.t 1))))⟩, ⟨2, (.some 23), .none, (.lload 0 .none (.t 22))⟩,
    ⟨3, (.some 24), .none, (.o (.s (.len (.t 23))))⟩, ⟨4, (.some 25), .none, (.o (.s (.bin .lss (.t 21) (.t 24))))⟩]) (.cond (.t 25) .skip (.exit 1)))
    (.seq (.block 2 (.ops 10 [⟨0, (.some 28), .none, (.o (.s (.mv (.t 3))))⟩, ⟨1, (.some 29), .none, (.o (.s (.fa 2 (.t 1))))⟩, ⟨2, (.some 30), .none,
    (.lload 0 .none (.t 29))⟩, ⟨3, (.some 31), .none, (.o (.s (.mv (.t 4))))⟩, ⟨4, (.some 32), .none, (.o (.s (.ia 3 (.t 30) (.t 31))))⟩, ⟨5, (.some 33), .none,
    (.o (.s (.load (.some 3) (.t 32))))⟩, ⟨6, (.some 34), .none, (.o (.call 10 [(.t 33)]))⟩, ⟨7, (.some 35), .none, (.lbsl 3 29 3 1 [(.int .i64 (0)), (.str []), .nils]
    [(0, (.t 34))] .false)⟩, ⟨8, (.some 36), .none, (.lapp 2 29 3 48 (.t 28) (.t 35))⟩, ⟨9, (.some 3), .none, (.o (.s (.mv (.t 36))))⟩])) (.ops 3 [⟨0, (.some 26), .none,
    (.o (.s (.mv (.t 4))))⟩, ⟨1, (.some 27), .none, (.o (.s (.bin .add (.t 26) (.k (.int .i64 (1))))))⟩, ⟨2, (.some 4), .none, (.o (.s (.mv (.t 27))))⟩])))
theorem F10l0w : F10l0.wf = true := by kernel_rfl
def F10s : S2 :=
  (.seq (.ops 2 [⟨0, (.some 1), .none, (.lbox 0 24 (.t 0))⟩, ⟨1, (.some 2), .none, (.lalloc 1 29 [(.int .i64 (0)), (.str []), .nils])⟩]) (.seq (.seq (.ops 2 [⟨0, (.some 5),
    .none, (.o (.s (.fa 0 (.t 1))))⟩, ⟨1, (.some 6), .none, (.lload 0 .none (.t 5))⟩]) (.block 0 (.seq (.ops 2 [⟨0, (.some 8), .none, (.o (.s (.bin .eql (.t 6)
    (.k (.int .i64 (1))))))⟩, ⟨1, (.some 7), .none, (.o (.s (.mv (.t 8))))⟩]) (.cond (.t 7) (.seq (.ops 4 [⟨0, (.some 9), .none, (.o (.s (.fa 1 (.t 1))))⟩, ⟨1, (.some 10),
    .none, (.lload 0 .none (.t 9))⟩, ⟨2, (.some 11), .none, (.o (.call 21 [(.t 10)]))⟩, ⟨3, .none, .none, (.lstore 1 3 (.t 2) (.t 11))⟩]) .ret) (.seq (.ops 2 [⟨0,
    (.some 13), .none, (.o (.s (.bin .eql (.t 6) (.k (.int .i64 (2))))))⟩, ⟨1, (.some 12), .none, (.o (.s (.mv (.t 13))))⟩]) (.cond (.t 12) (.seq (.ops 2 [⟨0, (.some 14),
    .none, (.o (.call 22 []))⟩, ⟨1, .none, .none, (.lstore 1 3 (.t 2) (.t 14))⟩]) .ret) (.seq (.ops 2 [⟨0, (.some 16), .none, (.o (.s (.bin .eql (.t 6)
    (.k (.int .i64 (3))))))⟩, ⟨1, (.some 15), .none, (.o (.s (.mv (.t 16))))⟩]) (.cond (.t 15) (.seq (.ops 2 [⟨0, (.some 17), .none, (.o (.call 25 []))⟩, ⟨1, .none, .none,
    (.lstore 1 3 (.t 2) (.t 17))⟩]) .ret) (.seq (.ops 2 [⟨0, (.some 19), .none, (.o (.s (.bin .eql (.t 6) (.k (.int .i64 (4))))))⟩, ⟨1, (.some 18), .none,
    (.o (.s (.mv (.t 19))))⟩]) (.cond (.t 18) (.seq (.ops 2 [⟨0, (.some 20), .none, (.o (.call 23 []))⟩, ⟨1, .none, .none, (.lstore 1 3 (.t 2) (.t 20))⟩]) .ret)
    .skip)))))))))) (.seq (.ops 1 [⟨0, (.some 3), .none, (.o (.s (.mv (.k .nils))))⟩]) (.seq (.seq (.ops 1 [⟨0, (.some 4), .none, (.o (.s (.mv (.k (.int .i64 (0))))))⟩])
    (.block 1 (.loop F10l0))) (.seq (.seq (.ops 2 [⟨0, (.some 37), .none, (.o (.s (.fa 0 (.t 1))))⟩, ⟨1, (.some 38), .none, (.lload 0 .none (.t 37))⟩])
    (.block 3 (.seq (.ops 2 [⟨0, (.some 40), .none, (.o (.s (.bin .eql (.t 38) (.k (.int .i64 (5))))))⟩, ⟨1, (.some 39), .none, (.o (.s (.mv (.t 40))))⟩]) (.cond (.t 39)
    (.seq (.ops 4 [⟨0, (.some 41), .none, (.o (.s (.mv (.t 3))))⟩, ⟨1, (.some 42), .none, (.o (.call 16 [(.t 41)]))⟩, ⟨2, (.some 43), .none, (.o (.call 17 [(.t 42)]))⟩,
    ⟨3, .none, .none, (.lstore 1 3 (.t 2) (.t 43))⟩]) .ret) (.seq (.ops 2 [⟨0, (.some 45), .none, (.o (.s (.bin .eql (.t 38) (.k (.int .i64 (7))))))⟩, ⟨1, (.some 44),
    .none, (.o (.s (.mv (.t 45))))⟩]) (.cond (.t 44) (.seq (.ops 4 [⟨0, (.some 46), .none, (.o (.s (.mv (.t 3))))⟩, ⟨1, (.some 47), .none, (.o (.call 16 [(.t 46)]))⟩, ⟨2,
    (.some 48), .none, (.o (.call 18 [(.t 47)]))⟩, ⟨3, .none, .none, (.lstore 1 3 (.t 2) (.t 48))⟩]) .ret) .skip)))))) (.seq (.ops 3 [⟨0, (.some 49), .none,
    (.o (.s (.mv (.t 3))))⟩, ⟨1, (.some 50), .none, (.o (.call 16 [(.t 49)]))⟩, ⟨2, .none, .none, (.lstore 1 3 (.t 2) (.t 50))⟩]) .ret))))))
noncomputable def F10b : Go.Code := Go.Proofs.Try.f10.body.getD .skip
theorem F10c : comp C [] F10b = some F10s.er := by kernel_rfl
theorem F10w : F10s.wf = true := by kernel_rfl
theorem F10d : Go.Proofs.Try.f10.body = some F10b := by kernel_rfl
@[simp] def F10q : List RV2 := [(.lcell 1 2 (.some 3))]
theorem F10r : compRVs C Go.Proofs.Try.f10.results.toList = some (F10q.map RV2.er) := by kernel_rfl
theorem F10e : Enters Go.Proofs.Try.prog 10 := enters_of Go.Proofs.Try.func10 (by kernel_rfl) (by kernel_rfl)

/-- scarf/scarfref07.Pieces -- 0: box t2; 1: grows t4 t5 t17 t25 t34 t39 t46 t53 t60 t64 t73 t79 t80 -/
def F11l0 : S2 :=
  (.seq (.seq (.ops 11 [⟨0, (.some 40), .none, (.o (.s (.mv (.t 6))))⟩, ⟨1, (.some 41), .none, (.o (.s (.fa 2 (.t 2))))⟩, ⟨2, (.some 42), .none, (.lload 0 .none (.t 41))⟩,
    ⟨3, (.some 43), .none, (.o (.s (.len (.t 42))))⟩, ⟨4, (.some 44), .none, (.o (.s (.bin .lss (.t 40) (.t 43))))⟩, ⟨5, (.some 45), .none, (.o (.s (.mv (.t 44))))⟩, ⟨6,
    (.some 46), (.some (45, .true)), (.o (.s (.mv (.t 5))))⟩, ⟨7, (.some 47), (.some (45, .true)), (.o (.s (.len (.t 46))))⟩, ⟨8, (.some 48), (.some (45, .true)),
    (.o (.s (.mv (.t 1))))⟩, ⟨9, (.some 49), (.some (45, .true)), (.o (.s (.bin .lss (.t 47) (.t 48))))⟩, ⟨10, (.some 50), .none, (.o (.s (.pick (.t 45) (.t 49)
    (.k (.bool .false)))))⟩]) (.cond (.t 50) .skip (.exit 1))) (.seq (.block 2 (.ops 13 [⟨0, (.some 53), .none, (.o (.s (.mv (.t 5))))⟩, ⟨1, (.some 54), .none,
    (.o (.s (.fa 2 (.t 2))))⟩, ⟨2, (.some 55), .none, (.lload 0 .none (.t 54))⟩, ⟨3, (.some 56), .none, (.o (.s (.mv (.t 6))))⟩, ⟨4, (.some 57), .none,
    (.o (.s (.ia 3 (.t 55) (.t 56))))⟩, ⟨5, (.some 58), .none, (.o (.s (.load (.some 3) (.t 57))))⟩, ⟨6, (.some 59), .none, (.o (.s (.mv (.t 1))))⟩, ⟨7, (.some 60), .none,
    (.o (.s (.mv (.t 5))))⟩, ⟨8, (.some 61), .none, (.o (.s (.len (.t 60))))⟩, ⟨9, (.some 62), .none, (.o (.s (.bin .sub (.t 59) (.t 61))))⟩, ⟨10, (.some 63), .none,
    (.o (.call 11 [(.t 58), (.t 62)]))⟩, ⟨11, (.some 64), .none, (.lapp 1 49 2 24 (.t 53) (.t 63))⟩, ⟨12, (.some 5), .none, (.o (.s (.mv (.t 64))))⟩])) (.ops 3 [⟨0,
    (.some 51), .none, (.o (.s (.mv (.t 6))))⟩, ⟨1, (.some 52), .none, (.o (.s (.bin .add (.t 51) (.k (.int .i64 (1))))))⟩, ⟨2, (.some 6), .none,
    (.o (.s (.mv (.t 52))))⟩])))
theorem F11l0w : F11l0.wf = true := by kernel_rfl
def F11s : S2 :=
  (.seq (.ops 2 [⟨0, (.some 2), .none, (.lbox 0 24 (.t 0))⟩, ⟨1, (.some 4), .none, (.o (.s (.mv (.k .nils))))⟩]) (.seq (.seq (.ops 2 [⟨0, (.some 7), .none,
    (.o (.s (.fa 0 (.t 2))))⟩, ⟨1, (.some 8), .none, (.lload 0 .none (.t 7))⟩]) (.block 0 (.seq (.ops 2 [⟨0, (.some 10), .none, (.o (.s (.bin .eql (.t 8)
    (.k (.int .i64 (1))))))⟩, ⟨1, (.some 9), .none, (.o (.s (.mv (.t 10))))⟩]) (.cond (.t 9) (.seq (.seq (.ops 3 [⟨0, (.some 11), .none, (.o (.s (.fa 1 (.t 2))))⟩, ⟨1,
    (.some 12), .none, (.lload 0 .none (.t 11))⟩, ⟨2, (.some 13), .none, (.o (.s (.bin .eql (.t 12) (.k (.str [])))))⟩]) (.cond (.t 13) (.seq (.ops 1 [⟨0, (.some 4),
    .none, (.o (.s (.mv (.k .nils))))⟩]) .ret) .skip)) (.seq (.ops 5 [⟨0, (.some 14), .none, (.o (.s (.fa 1 (.t 2))))⟩, ⟨1, (.some 15), .none, (.lload 0 .none (.t 14))⟩,
    ⟨2, (.some 16), .none, (.o (.s (.build [(.int .i64 (0)), (.str [])] [(0, (1, (.k (.int .i64 (1))))), (1, (1, (.t 15)))])))⟩, ⟨3, (.some 17), .none,
    (.lbsl 1 49 2 1 [(.int .i64 (0)), (.str [])] [(0, (.t 16))] .false)⟩, ⟨4, (.some 4), .none, (.o (.s (.mv (.t 17))))⟩]) .ret)) (.seq (.seq (.ops 2 [⟨0, (.some 19),
    .none, (.o (.s (.bin .eql (.t 8) (.k (.int .i64 (2))))))⟩, ⟨1, (.some 18), .none, (.o (.s (.mv (.t 19))))⟩]) (.cond (.t 18) .skip (.seq (.ops 2 [⟨0, (.some 20), .none,
    (.o (.s (.bin .eql (.t 8) (.k (.int .i64 (3))))))⟩, ⟨1, (.some 18), .none, (.o (.s (.mv (.t 20))))⟩]) (.cond (.t 18) .skip (.ops 2 [⟨0, (.some 21), .none,
    (.o (.s (.bin .eql (.t 8) (.k (.int .i64 (4))))))⟩, ⟨1, (.some 18), .none, (.o (.s (.mv (.t 21))))⟩]))))) (.cond (.t 18) (.seq (.ops 5 [⟨0, (.some 22), .none,
    (.o (.s (.fa 0 (.t 2))))⟩, ⟨1, (.some 23), .none, (.lload 0 .none (.t 22))⟩, ⟨2, (.some 24), .none, (.o (.s (.build [(.int .i64 (0)), (.str [])] [(0, (1, (.t 23))),
    (1, (1, (.k (.str []))))])))⟩, ⟨3, (.some 25), .none, (.lbsl 1 49 2 1 [(.int .i64 (0)), (.str [])] [(0, (.t 24))] .false)⟩, ⟨4, (.some 4), .none,
    (.o (.s (.mv (.t 25))))⟩]) .ret) .skip)))))) (.seq (.ops 1 [⟨0, (.some 5), .none, (.o (.s (.mv (.k .nils))))⟩]) (.seq (.seq (.ops 8 [⟨0, (.some 26), .none,
    (.o (.s (.fa 0 (.t 2))))⟩, ⟨1, (.some 27), .none, (.lload 0 .none (.t 26))⟩, ⟨2, (.some 28), .none, (.o (.s (.bin .eql (.t 27) (.k (.int .i64 (5))))))⟩, ⟨3,
    (.some 29), .none, (.o (.s (.mv (.t 28))))⟩, ⟨4, (.some 30), (.some (29, .false)), (.o (.s (.fa 0 (.t 2))))⟩, ⟨5, (.some 31), (.some (29, .false)),
    (.lload 0 .none (.t 30))⟩, ⟨6, (.some 32), (.some (29, .false)), (.o (.s (.bin .eql (.t 31) (.k (.int .i64 (7))))))⟩, ⟨7, (.some 33), .none, (.o (.s (.pick (.t 29)
    (.k (.bool .true)) (.t 32))))⟩]) (.cond (.t 33) (.ops 7 [⟨0, (.some 34), .none, (.o (.s (.mv (.t 5))))⟩, ⟨1, (.some 35), .none, (.o (.s (.fa 0 (.t 2))))⟩, ⟨2,
    (.some 36), .none, (.lload 0 .none (.t 35))⟩, ⟨3, (.some 37), .none, (.o (.s (.build [(.int .i64 (0)), (.str [])] [(0, (1, (.t 36))), (1, (1, (.k (.str []))))])))⟩,
    ⟨4, (.some 38), .none, (.lbsl 2 49 2 1 [(.int .i64 (0)), (.str [])] [(0, (.t 37))] .false)⟩, ⟨5, (.some 39), .none, (.lapp 1 49 2 24 (.t 34) (.t 38))⟩, ⟨6, (.some 5),
    .none, (.o (.s (.mv (.t 39))))⟩]) .skip)) (.seq (.seq (.ops 1 [⟨0, (.some 6), .none, (.o (.s (.mv (.k (.int .i64 (0))))))⟩]) (.block 1 (.loop F11l0)))
    (.seq (.seq (.ops 8 [⟨0, (.some 65), .none, (.o (.s (.fa 0 (.t 2))))⟩, ⟨1, (.some 66), .none, (.lload 0 .none (.t 65))⟩, ⟨2, (.some 67), .none,
    (.o (.s (.bin .eql (.t 66) (.k (.int .i64 (5))))))⟩, ⟨3, (.some 68), .none, (.o (.s (.mv (.t 67))))⟩, ⟨4, (.some 69), (.some (68, .false)), (.o (.s (.fa 0 (.t 2))))⟩,
    ⟨5, (.some 70), (.some (68, .false)), (.lload 0 .none (.t 69))⟩, ⟨6, (.some 71), (.some (68, .false)), (.o (.s (.bin .eql (.t 70) (.k (.int .i64 (7))))))⟩, ⟨7,
    (.some 72), .none, (.o (.s (.pick (.t 68) (.k (.bool .true)) (.t 71))))⟩]) (.cond (.t 72) (.ops 8 [⟨0, (.some 73), .none, (.o (.s (.mv (.t 5))))⟩, ⟨1, (.some 74),
    .none, (.o (.s (.fa 0 (.t 2))))⟩, ⟨2, (.some 75), .none, (.lload 0 .none (.t 74))⟩, ⟨3, (.some 76), .none, (.o (.s (.bin .add (.t 75) (.k (.int .i64 (1))))))⟩, ⟨4,
    (.some 77), .none, (.o (.s (.build [(.int .i64 (0)), (.str [])] [(0, (1, (.t 76))), (1, (1, (.k (.str []))))])))⟩, ⟨5, (.some 78), .none,
    (.lbsl 2 49 2 1 [(.int .i64 (0)), (.str [])] [(0, (.t 77))] .false)⟩, ⟨6, (.some 79), .none, (.lapp 1 49 2 24 (.t 73) (.t 78))⟩, ⟨7, (.some 5), .none,
    (.o (.s (.mv (.t 79))))⟩]) .skip)) (.seq (.ops 2 [⟨0, (.some 80), .none, (.o (.s (.mv (.t 5))))⟩, ⟨1, (.some 4), .none, (.o (.s (.mv (.t 80))))⟩]) .ret)))))))
noncomputable def F11b : Go.Code := Go.Proofs.Try.f11.body.getD .skip
theorem F11c : comp C [] F11b = some F11s.er := by kernel_rfl
theorem F11w : F11s.wf = true := by kernel_rfl
theorem F11d : Go.Proofs.Try.f11.body = some F11b := by kernel_rfl
@[simp] def F11q : List RV2 := [(.o (.tmp 4))]
theorem F11r : compRVs C Go.Proofs.Try.f11.results.toList = some (F11q.map RV2.er) := by kernel_rfl
theorem F11e : Enters Go.Proofs.Try.prog 11 := enters_of Go.Proofs.Try.func11 (by kernel_rfl) (by kernel_rfl)

/-- (scarf/doc.Doc).Flat -- 0: box t1; 1: box t6 -/
def F12l0 : S2 :=
  (.seq (.ops 1 [⟨0, (.some 11), .none, (.o (.s (.bin .lss (.t 10) (.t 9))))⟩]) (.seq (.cond (.t 11) .skip (.exit 0)) (.seq (.block 1 (.seq (.ops 4 [⟨0, (.some 12), .none,
    (.o (.s (.ia 2 (.t 8) (.t 10))))⟩, ⟨1, (.some 13), .none, (.o (.s (.load (.some 2) (.t 12))))⟩, ⟨2, (.some 6), .none, (.lalloc 1 43 [(.int .i64 (0)), (.str [])])⟩, ⟨3,
    .none, .none, (.lstore 1 2 (.t 6) (.t 13))⟩]) (.seq (.ops 2 [⟨0, (.some 14), .none, (.o (.s (.fa 0 (.t 6))))⟩, ⟨1, (.some 15), .none, (.lload 1 .none (.t 14))⟩])
    (.block 2 (.seq (.ops 2 [⟨0, (.some 17), .none, (.o (.s (.bin .eql (.t 15) (.k (.int .i64 (1))))))⟩, ⟨1, (.some 16), .none, (.o (.s (.mv (.t 17))))⟩]) (.cond (.t 16)
    (.ops 3 [⟨0, (.some 18), .none, (.o (.s (.fa 1 (.t 6))))⟩, ⟨1, (.some 19), .none, (.lload 1 .none (.t 18))⟩, ⟨2, (.some 20), .none, (.o (.call 26 [(.t 4),
    (.t 19)]))⟩]) (.seq (.ops 2 [⟨0, (.some 22), .none, (.o (.s (.bin .eql (.t 15) (.k (.int .i64 (2))))))⟩, ⟨1, (.some 21), .none, (.o (.s (.mv (.t 22))))⟩])
    (.cond (.t 21) (.ops 1 [⟨0, (.some 23), .none, (.o (.call 27 [(.t 4), (.k (.int .u8 (32)))]))⟩]) (.seq (.ops 2 [⟨0, (.some 25), .none, (.o (.s (.bin .eql (.t 15)
    (.k (.int .i64 (4))))))⟩, ⟨1, (.some 24), .none, (.o (.s (.mv (.t 25))))⟩]) (.cond (.t 24) (.seq (.ops 2 [⟨0, (.some 2), .none, (.o (.s (.mv (.k (.str [])))))⟩, ⟨1,
    (.some 3), .none, (.o (.s (.mv (.k (.bool .false)))))⟩]) .ret) .skip)))))))))) (.ops 2 [⟨0, (.some 26), .none, (.o (.s (.bin .add (.t 10) (.k (.int .i64 (1))))))⟩, ⟨1,
    (.some 10), .none, (.o (.s (.mv (.t 26))))⟩]))))
theorem F12l0w : F12l0.wf = true := by kernel_rfl
def F12s : S2 :=
  (.seq (.ops 3 [⟨0, (.some 1), .none, (.lbox 0 29 (.t 0))⟩, ⟨1, (.some 2), .none, (.o (.s (.mv (.k (.str [])))))⟩, ⟨2, (.some 3), .none,
    (.o (.s (.mv (.k (.bool .false)))))⟩]) (.seq (.ops 1 [⟨0, (.some 4), .none, (.o (.s (.alloc 54 [.nilp, .nils])))⟩]) (.seq (.seq (.ops 4 [⟨0, (.some 7), .none,
    (.lload 0 (.some 3) (.t 1))⟩, ⟨1, (.some 8), .none, (.o (.call 15 [(.t 7)]))⟩, ⟨2, (.some 9), .none, (.o (.s (.len (.t 8))))⟩, ⟨3, (.some 10), .none,
    (.o (.s (.mv (.k (.int .i64 (0))))))⟩]) (.block 0 (.loop F12l0))) (.seq (.ops 3 [⟨0, (.some 27), .none, (.o (.call 28 [(.t 4)]))⟩, ⟨1, (.some 2), .none,
    (.o (.s (.mv (.t 27))))⟩, ⟨2, (.some 3), .none, (.o (.s (.mv (.k (.bool .true)))))⟩]) .ret))))
noncomputable def F12b : Go.Code := Go.Proofs.Try.f12.body.getD .skip
theorem F12c : comp C [] F12b = some F12s.er := by kernel_rfl
theorem F12w : F12s.wf = true := by kernel_rfl
theorem F12d : Go.Proofs.Try.f12.body = some F12b := by kernel_rfl
@[simp] def F12q : List RV2 := [(.o (.tmp 2)), (.o (.tmp 3))]
theorem F12r : compRVs C Go.Proofs.Try.f12.results.toList = some (F12q.map RV2.er) := by kernel_rfl
theorem F12e : Enters Go.Proofs.Try.prog 12 := enters_of Go.Proofs.Try.func12 (by kernel_rfl) (by kernel_rfl)

/-- scarf/scarfref07.Flat --  -/
def F13l0 : S2 :=
  (.seq (.seq (.ops 4 [⟨0, (.some 6), .none, (.o (.s (.mv (.t 5))))⟩, ⟨1, (.some 7), .none, (.o (.s (.mv (.t 0))))⟩, ⟨2, (.some 8), .none, (.o (.s (.len (.t 7))))⟩, ⟨3,
    (.some 9), .none, (.o (.s (.bin .lss (.t 6) (.t 8))))⟩]) (.cond (.t 9) .skip (.exit 0))) (.seq (.block 1 (.seq (.seq (.ops 6 [⟨0, (.some 12), .none,
    (.o (.s (.mv (.t 0))))⟩, ⟨1, (.some 13), .none, (.o (.s (.mv (.t 5))))⟩, ⟨2, (.some 14), .none, (.o (.s (.ia 2 (.t 12) (.t 13))))⟩, ⟨3, (.some 15), .none,
    (.o (.s (.fa 0 (.t 14))))⟩, ⟨4, (.some 16), .none, (.o (.s (.load .none (.t 15))))⟩, ⟨5, (.some 17), .none, (.o (.s (.bin .eql (.t 16) (.k (.int .i64 (4))))))⟩])
    (.cond (.t 17) (.seq (.ops 2 [⟨0, (.some 2), .none, (.o (.s (.mv (.k (.str [])))))⟩, ⟨1, (.some 3), .none, (.o (.s (.mv (.k (.bool .false)))))⟩]) .ret) .skip))
    (.seq (.seq (.ops 6 [⟨0, (.some 18), .none, (.o (.s (.mv (.t 0))))⟩, ⟨1, (.some 19), .none, (.o (.s (.mv (.t 5))))⟩, ⟨2, (.some 20), .none, (.o (.s (.ia 2 (.t 18)
    (.t 19))))⟩, ⟨3, (.some 21), .none, (.o (.s (.fa 0 (.t 20))))⟩, ⟨4, (.some 22), .none, (.o (.s (.load .none (.t 21))))⟩, ⟨5, (.some 23), .none,
    (.o (.s (.bin .eql (.t 22) (.k (.int .i64 (1))))))⟩]) (.cond (.t 23) (.ops 8 [⟨0, (.some 24), .none, (.o (.s (.mv (.t 4))))⟩, ⟨1, (.some 25), .none,
    (.o (.s (.mv (.t 0))))⟩, ⟨2, (.some 26), .none, (.o (.s (.mv (.t 5))))⟩, ⟨3, (.some 27), .none, (.o (.s (.ia 2 (.t 25) (.t 26))))⟩, ⟨4, (.some 28), .none,
    (.o (.s (.fa 1 (.t 27))))⟩, ⟨5, (.some 29), .none, (.o (.s (.load .none (.t 28))))⟩, ⟨6, (.some 30), .none, (.o (.s (.bin .add (.t 24) (.t 29))))⟩, ⟨7, (.some 4),
    .none, (.o (.s (.mv (.t 30))))⟩]) .skip)) (.seq (.ops 6 [⟨0, (.some 31), .none, (.o (.s (.mv (.t 0))))⟩, ⟨1, (.some 32), .none, (.o (.s (.mv (.t 5))))⟩, ⟨2,
    (.some 33), .none, (.o (.s (.ia 2 (.t 31) (.t 32))))⟩, ⟨3, (.some 34), .none, (.o (.s (.fa 0 (.t 33))))⟩, ⟨4, (.some 35), .none, (.o (.s (.load .none (.t 34))))⟩, ⟨5,
    (.some 36), .none, (.o (.s (.bin .eql (.t 35) (.k (.int .i64 (2))))))⟩]) (.cond (.t 36) (.ops 3 [⟨0, (.some 37), .none, (.o (.s (.mv (.t 4))))⟩, ⟨1, (.some 38), .none,
    (.o (.s (.bin .add (.t 37) (.k (.str [32])))))⟩, ⟨2, (.some 4), .none, (.o (.s (.mv (.t 38))))⟩]) .skip))))) (.ops 3 [⟨0, (.some 10), .none, (.o (.s (.mv (.t 5))))⟩,
    ⟨1, (.some 11), .none, (.o (.s (.bin .add (.t 10) (.k (.int .i64 (1))))))⟩, ⟨2, (.some 5), .none, (.o (.s (.mv (.t 11))))⟩])))
theorem F13l0w : F13l0.wf = true := by kernel_rfl
def F13s : S2 :=
  (.seq (.ops 2 [⟨0, (.some 2), .none, (.o (.s (.mv (.k (.str [])))))⟩, ⟨1, (.some 3), .none, (.o (.s (.mv (.k (.bool .false)))))⟩]) (.seq (.ops 1 [⟨0, (.some 4), .none,
    (.o (.s (.mv (.k (.str [])))))⟩]) (.seq (.seq (.ops 1 [⟨0, (.some 5), .none, (.o (.s (.mv (.k (.int .i64 (0))))))⟩]) (.block 0 (.loop F13l0))) (.seq (.ops 3 [⟨0,
    (.some 39), .none, (.o (.s (.mv (.t 4))))⟩, ⟨1, (.some 2), .none, (.o (.s (.mv (.t 39))))⟩, ⟨2, (.some 3), .none, (.o (.s (.mv (.k (.bool .true)))))⟩]) .ret))))
noncomputable def F13b : Go.Code := Go.Proofs.Try.f13.body.getD .skip
theorem F13c : comp C [] F13b = some F13s.er := by kernel_rfl
theorem F13w : F13s.wf = true := by kernel_rfl
theorem F13d : Go.Proofs.Try.f13.body = some F13b := by kernel_rfl
@[simp] def F13q : List RV2 := [(.o (.tmp 2)), (.o (.tmp 3))]
theorem F13r : compRVs C Go.Proofs.Try.f13.results.toList = some (F13q.map RV2.er) := by kernel_rfl
theorem F13e : Enters Go.Proofs.Try.prog 13 := enters_of Go.Proofs.Try.func13 (by kernel_rfl) (by kernel_rfl)

/-- scarf/scarflaw07.same --  -/
def F14l0 : S2 :=
  (.seq (.seq (.ops 4 [⟨0, (.some 11), .none, (.o (.s (.mv (.t 5))))⟩, ⟨1, (.some 12), .none, (.o (.s (.mv (.t 0))))⟩, ⟨2, (.some 13), .none, (.o (.s (.len (.t 12))))⟩, ⟨3,
    (.some 14), .none, (.o (.s (.bin .lss (.t 11) (.t 13))))⟩]) (.cond (.t 14) .skip (.exit 0))) (.seq (.block 1 (.seq (.dops 24 [(⟨0, (.some 17), .none,
    (.o (.s (.mv (.t 0))))⟩, (.mk 0 [])), (⟨1, (.some 18), .none, (.o (.s (.mv (.t 5))))⟩, (.mk 0 [])), (⟨5, (.some 22), .none, (.o (.s (.mv (.t 1))))⟩, (.mk 0 [])), (⟨6,
    (.some 23), .none, (.o (.s (.mv (.t 5))))⟩, (.mk 0 [])), (⟨2, (.some 19), .none, (.o (.s (.ia 2 (.t 17) (.t 18))))⟩, (.mk 1 [])), (⟨3, (.some 20), .none,
    (.o (.s (.fa 0 (.t 19))))⟩, (.mk 0 [])), (⟨4, (.some 21), .none, (.o (.s (.load .none (.t 20))))⟩, (.mk 1 [])), (⟨7, (.some 24), .none, (.o (.s (.ia 2 (.t 22)
    (.t 23))))⟩, (.mk 1 [])), (⟨8, (.some 25), .none, (.o (.s (.fa 0 (.t 24))))⟩, (.mk 0 [])), (⟨9, (.some 26), .none, (.o (.s (.load .none (.t 25))))⟩, (.mk 1 [])), (⟨10,
    (.some 27), .none, (.o (.s (.bin .neq (.t 21) (.t 26))))⟩, (.mk 0 [])), (⟨11, (.some 28), .none, (.o (.s (.mv (.t 27))))⟩, (.mk 0 [])), (⟨12, (.some 29), (.some (28,
    .false)), (.o (.s (.mv (.t 0))))⟩, (.mk 0 [])), (⟨13, (.some 30), (.some (28, .false)), (.o (.s (.mv (.t 5))))⟩, (.mk 0 [])), (⟨17, (.some 34), (.some (28, .false)),
    (.o (.s (.mv (.t 1))))⟩, (.mk 0 [])), (⟨18, (.some 35), (.some (28, .false)), (.o (.s (.mv (.t 5))))⟩, (.mk 0 [])), (⟨14, (.some 31), (.some (28, .false)),
    (.o (.s (.ia 2 (.t 29) (.t 30))))⟩, (.mk 1 [])), (⟨15, (.some 32), (.some (28, .false)), (.o (.s (.fa 1 (.t 31))))⟩, (.mk 0 [])), (⟨16, (.some 33), (.some (28,
    .false)), (.o (.s (.load .none (.t 32))))⟩, (.mk 1 [])), (⟨19, (.some 36), (.some (28, .false)), (.o (.s (.ia 2 (.t 34) (.t 35))))⟩, (.mk 1 [])), (⟨20, (.some 37),
    (.some (28, .false)), (.o (.s (.fa 1 (.t 36))))⟩, (.mk 0 [])), (⟨21, (.some 38), (.some (28, .false)), (.o (.s (.load .none (.t 37))))⟩, (.mk 1 [])), (⟨22, (.some 39),
    (.some (28, .false)), (.o (.s (.bin .neq (.t 33) (.t 38))))⟩, (.mk 0 [])), (⟨23, (.some 40), .none, (.o (.s (.pick (.t 28) (.k (.bool .true)) (.t 39))))⟩,
    (.mk 0 []))]) (.cond (.t 40) (.seq (.ops 1 [⟨0, (.some 4), .none, (.o (.s (.mv (.k (.bool .false)))))⟩]) .ret) .skip))) (.ops 3 [⟨0, (.some 15), .none,
    (.o (.s (.mv (.t 5))))⟩, ⟨1, (.some 16), .none, (.o (.s (.bin .add (.t 15) (.k (.int .i64 (1))))))⟩, ⟨2, (.some 5), .none, (.o (.s (.mv (.t 16))))⟩])))
theorem F14l0w : F14l0.wf = true := by kernel_rfl
def F14s : S2 :=
  (.seq (.ops 1 [⟨0, (.some 4), .none, (.o (.s (.mv (.k (.bool .false)))))⟩]) (.seq (.seq (.ops 5 [⟨0, (.some 6), .none, (.o (.s (.mv (.t 0))))⟩, ⟨1, (.some 7), .none,
    (.o (.s (.len (.t 6))))⟩, ⟨2, (.some 8), .none, (.o (.s (.mv (.t 1))))⟩, ⟨3, (.some 9), .none, (.o (.s (.len (.t 8))))⟩, ⟨4, (.some 10), .none,
    (.o (.s (.bin .neq (.t 7) (.t 9))))⟩]) (.cond (.t 10) (.seq (.ops 1 [⟨0, (.some 4), .none, (.o (.s (.mv (.k (.bool .false)))))⟩]) .ret) .skip))
    (.seq (.seq (.ops 1 [⟨0, (.some 5), .none, (.o (.s (.mv (.k (.int .i64 (0))))))⟩]) (.block 0 (.loop F14l0))) (.seq (.ops 1 [⟨0, (.some 4), .none,
    (.o (.s (.mv (.k (.bool .true)))))⟩]) .ret))))
noncomputable def F14b : Go.Code := Go.Proofs.Try.f14.body.getD .skip
theorem F14c : comp C [] F14b = some F14s.er := by kernel_rfl
theorem F14w : F14s.wf = true := by kernel_rfl
theorem F14d : Go.Proofs.Try.f14.body = some F14b := by kernel_rfl
@[simp] def F14q : List RV2 := [(.o (.tmp 4))]
theorem F14r : compRVs C Go.Proofs.Try.f14.results.toList = some (F14q.map RV2.er) := by kernel_rfl
theorem F14e : Enters Go.Proofs.Try.prog 14 := enters_of Go.Proofs.Try.func14 (by kernel_rfl) (by kernel_rfl)

/-- (scarf/doc.Doc).Plain -- 0: box t1 -/
def F15s : S2 :=
  (.seq (.ops 2 [⟨0, (.some 1), .none, (.lbox 0 29 (.t 0))⟩, ⟨1, (.some 2), .none, (.o (.s (.mv (.k .nils))))⟩]) (.seq (.ops 1 [⟨0, (.some 3), .none,
    (.o (.s (.alloc 37 [.nils])))⟩]) (.seq (.ops 1 [⟨0, (.some 4), .none, (.o (.s (.alloc 61 [.nilf])))⟩]) (.seq (.ops 2 [⟨0, (.some 5), .none, (.o (.s (.mkf (.func 29) []
    [(.t 3), (.t 4)])))⟩, ⟨1, .none, .none, (.o (.s (.store 1 (.t 4) (.t 5))))⟩]) (.seq (.ops 3 [⟨0, (.some 6), .none, (.o (.s (.load .none (.t 4))))⟩, ⟨1, (.some 7),
    .none, (.lload 0 (.some 3) (.t 1))⟩, ⟨2, (.some 8), .none, (.o (.callv (.t 6) [(.t 7)]))⟩]) (.seq (.ops 2 [⟨0, (.some 9), .none, (.o (.s (.load .none (.t 3))))⟩, ⟨1,
    (.some 2), .none, (.o (.s (.mv (.t 9))))⟩]) .ret))))))
noncomputable def F15b : Go.Code := Go.Proofs.Try.f15.body.getD .skip
theorem F15c : comp C [] F15b = some F15s.er := by kernel_rfl
theorem F15w : F15s.wf = true := by kernel_rfl
theorem F15d : Go.Proofs.Try.f15.body = some F15b := by kernel_rfl
@[simp] def F15q : List RV2 := [(.o (.tmp 2))]
theorem F15r : compRVs C Go.Proofs.Try.f15.results.toList = some (F15q.map RV2.er) := by kernel_rfl
theorem F15e : Enters Go.Proofs.Try.prog 15 := enters_of Go.Proofs.Try.func15 (by kernel_rfl) (by kernel_rfl)

/-- scarf/doc.Row -- 0: box t2 -/
def F16s : S2 :=
  (.seq (.ops 1 [⟨0, (.some 2), .none, (.lalloc 0 29 [(.int .i64 (0)), (.str []), .nils])⟩]) (.seq (.ops 4 [⟨0, (.some 3), .none, (.o (.s (.mv (.t 0))))⟩, ⟨1, (.some 4),
    .none, (.o (.call 30 [(.t 3)]))⟩, ⟨2, (.some 5), .none, (.o (.s (.build [(.int .i64 (0)), (.str []), .nils] [(2, (1, (.t 4)))])))⟩, ⟨3, .none, .none,
    (.lstore 0 3 (.t 2) (.t 5))⟩]) .ret))
noncomputable def F16b : Go.Code := Go.Proofs.Try.f16.body.getD .skip
theorem F16c : comp C [] F16b = some F16s.er := by kernel_rfl
theorem F16w : F16s.wf = true := by kernel_rfl
theorem F16d : Go.Proofs.Try.f16.body = some F16b := by kernel_rfl
@[simp] def F16q : List RV2 := [(.lcell 0 2 (.some 3))]
theorem F16r : compRVs C Go.Proofs.Try.f16.results.toList = some (F16q.map RV2.er) := by kernel_rfl
theorem F16e : Enters Go.Proofs.Try.prog 16 := enters_of Go.Proofs.Try.func16 (by kernel_rfl) (by kernel_rfl)

/-- scarf/doc.Nest -- 0: box t1; 1: box t2 -/
def F17s : S2 :=
  (.seq (.ops 2 [⟨0, (.some 1), .none, (.lbox 0 29 (.t 0))⟩, ⟨1, (.some 2), .none, (.lalloc 1 29 [(.int .i64 (0)), (.str []), .nils])⟩]) (.seq (.ops 4 [⟨0, (.some 3), .none,
    (.lload 0 (.some 3) (.t 1))⟩, ⟨1, (.some 4), .none, (.lbsl 2 29 3 1 [(.int .i64 (0)), (.str []), .nils] [(0, (.t 3))] .false)⟩, ⟨2, (.some 5), .none,
    (.o (.s (.build [(.int .i64 (0)), (.str []), .nils] [(0, (1, (.k (.int .i64 (5))))), (2, (1, (.t 4)))])))⟩, ⟨3, .none, .none, (.lstore 1 3 (.t 2) (.t 5))⟩]) .ret))
noncomputable def F17b : Go.Code := Go.Proofs.Try.f17.body.getD .skip
theorem F17c : comp C [] F17b = some F17s.er := by kernel_rfl
theorem F17w : F17s.wf = true := by kernel_rfl
theorem F17d : Go.Proofs.Try.f17.body = some F17b := by kernel_rfl
@[simp] def F17q : List RV2 := [(.lcell 1 2 (.some 3))]
theorem F17r : compRVs C Go.Proofs.Try.f17.results.toList = some (F17q.map RV2.er) := by kernel_rfl
theorem F17e : Enters Go.Proofs.Try.prog 17 := enters_of Go.Proofs.Try.func17 (by kernel_rfl) (by kernel_rfl)

/-- scarf/doc.Group -- 0: box t1; 1: box t2 -/
def F18s : S2 :=
  (.seq (.ops 2 [⟨0, (.some 1), .none, (.lbox 0 29 (.t 0))⟩, ⟨1, (.some 2), .none, (.lalloc 1 29 [(.int .i64 (0)), (.str []), .nils])⟩]) (.seq (.ops 4 [⟨0, (.some 3), .none,
    (.lload 0 (.some 3) (.t 1))⟩, ⟨1, (.some 4), .none, (.lbsl 2 29 3 1 [(.int .i64 (0)), (.str []), .nils] [(0, (.t 3))] .false)⟩, ⟨2, (.some 5), .none,
    (.o (.s (.build [(.int .i64 (0)), (.str []), .nils] [(0, (1, (.k (.int .i64 (7))))), (2, (1, (.t 4)))])))⟩, ⟨3, .none, .none, (.lstore 1 3 (.t 2) (.t 5))⟩]) .ret))
noncomputable def F18b : Go.Code := Go.Proofs.Try.f18.body.getD .skip
theorem F18c : comp C [] F18b = some F18s.er := by kernel_rfl
theorem F18w : F18s.wf = true := by kernel_rfl
theorem F18d : Go.Proofs.Try.f18.body = some F18b := by kernel_rfl
@[simp] def F18q : List RV2 := [(.lcell 1 2 (.some 3))]
theorem F18r : compRVs C Go.Proofs.Try.f18.results.toList = some (F18q.map RV2.er) := by kernel_rfl
theorem F18e : Enters Go.Proofs.Try.prog 18 := enters_of Go.Proofs.Try.func18 (by kernel_rfl) (by kernel_rfl)

/-- scarf/scarflaw07.alike --  -/
def F19l0 : S2 :=
  (.seq (.seq (.ops 4 [⟨0, (.some 11), .none, (.o (.s (.mv (.t 5))))⟩, ⟨1, (.some 12), .none, (.o (.s (.mv (.t 0))))⟩, ⟨2, (.some 13), .none, (.o (.s (.len (.t 12))))⟩, ⟨3,
    (.some 14), .none, (.o (.s (.bin .lss (.t 11) (.t 13))))⟩]) (.cond (.t 14) .skip (.exit 0))) (.seq (.block 1 (.seq (.dops 9 [(⟨0, (.some 17), .none,
    (.o (.s (.mv (.t 0))))⟩, (.mk 0 [])), (⟨1, (.some 18), .none, (.o (.s (.mv (.t 5))))⟩, (.mk 0 [])), (⟨4, (.some 21), .none, (.o (.s (.mv (.t 1))))⟩, (.mk 0 [])), (⟨5,
    (.some 22), .none, (.o (.s (.mv (.t 5))))⟩, (.mk 0 [])), (⟨2, (.some 19), .none, (.o (.s (.ia 2 (.t 17) (.t 18))))⟩, (.mk 1 [])), (⟨3, (.some 20), .none,
    (.o (.s (.load (.some 2) (.t 19))))⟩, (.mk 1 [])), (⟨6, (.some 23), .none, (.o (.s (.ia 2 (.t 21) (.t 22))))⟩, (.mk 1 [])), (⟨7, (.some 24), .none,
    (.o (.s (.load (.some 2) (.t 23))))⟩, (.mk 1 [])), (⟨8, (.some 25), .none, (.o (.s (.eqs (.agg [.int, .str]) .true (.t 20) (.t 24))))⟩, (.mk 0 []))]) (.cond (.t 25)
    (.seq (.ops 1 [⟨0, (.some 4), .none, (.o (.s (.mv (.k (.bool .false)))))⟩]) .ret) .skip))) (.ops 3 [⟨0, (.some 15), .none, (.o (.s (.mv (.t 5))))⟩, ⟨1, (.some 16),
    .none, (.o (.s (.bin .add (.t 15) (.k (.int .i64 (1))))))⟩, ⟨2, (.some 5), .none, (.o (.s (.mv (.t 16))))⟩])))
theorem F19l0w : F19l0.wf = true := by kernel_rfl
def F19s : S2 :=
  (.seq (.ops 1 [⟨0, (.some 4), .none, (.o (.s (.mv (.k (.bool .false)))))⟩]) (.seq (.seq (.ops 5 [⟨0, (.some 6), .none, (.o (.s (.mv (.t 0))))⟩, ⟨1, (.some 7), .none,
    (.o (.s (.len (.t 6))))⟩, ⟨2, (.some 8), .none, (.o (.s (.mv (.t 1))))⟩, ⟨3, (.some 9), .none, (.o (.s (.len (.t 8))))⟩, ⟨4, (.some 10), .none,
    (.o (.s (.bin .neq (.t 7) (.t 9))))⟩]) (.cond (.t 10) (.seq (.ops 1 [⟨0, (.some 4), .none, (.o (.s (.mv (.k (.bool .false)))))⟩]) .ret) .skip))
    (.seq (.seq (.ops 1 [⟨0, (.some 5), .none, (.o (.s (.mv (.k (.int .i64 (0))))))⟩]) (.block 0 (.loop F19l0))) (.seq (.ops 1 [⟨0, (.some 4), .none,
    (.o (.s (.mv (.k (.bool .true)))))⟩]) .ret))))
noncomputable def F19b : Go.Code := Go.Proofs.Try.f19.body.getD .skip
theorem F19c : comp C [] F19b = some F19s.er := by kernel_rfl
theorem F19w : F19s.wf = true := by kernel_rfl
theorem F19d : Go.Proofs.Try.f19.body = some F19b := by kernel_rfl
@[simp] def F19q : List RV2 := [(.o (.tmp 4))]
theorem F19r : compRVs C Go.Proofs.Try.f19.results.toList = some (F19q.map RV2.er) := by kernel_rfl
theorem F19e : Enters Go.Proofs.Try.prog 19 := enters_of Go.Proofs.Try.func19 (by kernel_rfl) (by kernel_rfl)

/-- scarf/doc.Join -- 0: box t2; 1: box t4; 2: box t7; 3: grows t5 t17 t20 t21 t24 t26 -/
def F20l0 : S2 :=
  (.seq (.ops 1 [⟨0, (.some 11), .none, (.o (.s (.bin .lss (.t 10) (.t 9))))⟩]) (.seq (.cond (.t 11) .skip (.exit 0)) (.seq (.block 1 (.seq (.ops 6 [⟨0, (.some 12), .none,
    (.o (.s (.mv (.t 10))))⟩, ⟨1, (.some 13), .none, (.o (.s (.ia 3 (.t 8) (.t 10))))⟩, ⟨2, (.some 14), .none, (.o (.s (.load (.some 3) (.t 13))))⟩, ⟨3, (.some 7), .none,
    (.lalloc 2 29 [(.int .i64 (0)), (.str []), .nils])⟩, ⟨4, (.some 6), .none, (.o (.s (.mv (.t 12))))⟩, ⟨5, .none, .none, (.lstore 2 3 (.t 7) (.t 14))⟩])
    (.seq (.seq (.ops 2 [⟨0, (.some 15), .none, (.o (.s (.mv (.t 6))))⟩, ⟨1, (.some 16), .none, (.o (.s (.bin .gtr (.t 15) (.k (.int .i64 (0))))))⟩]) (.cond (.t 16)
    (.ops 5 [⟨0, (.some 17), .none, (.o (.s (.mv (.t 5))))⟩, ⟨1, (.some 18), .none, (.lload 0 (.some 3) (.t 2))⟩, ⟨2, (.some 19), .none, (.lbsl 4 29 3 1 [(.int .i64 (0)),
    (.str []), .nils] [(0, (.t 18))] .false)⟩, ⟨3, (.some 20), .none, (.lapp 3 29 3 48 (.t 17) (.t 19))⟩, ⟨4, (.some 5), .none, (.o (.s (.mv (.t 20))))⟩]) .skip))
    (.ops 5 [⟨0, (.some 21), .none, (.o (.s (.mv (.t 5))))⟩, ⟨1, (.some 22), .none, (.lload 2 (.some 3) (.t 7))⟩, ⟨2, (.some 23), .none, (.lbsl 4 29 3 1 [(.int .i64 (0)),
    (.str []), .nils] [(0, (.t 22))] .false)⟩, ⟨3, (.some 24), .none, (.lapp 3 29 3 48 (.t 21) (.t 23))⟩, ⟨4, (.some 5), .none, (.o (.s (.mv (.t 24))))⟩])))) (.ops 2 [⟨0,
    (.some 25), .none, (.o (.s (.bin .add (.t 10) (.k (.int .i64 (1))))))⟩, ⟨1, (.some 10), .none, (.o (.s (.mv (.t 25))))⟩]))))
theorem F20l0w : F20l0.wf = true := by kernel_rfl
def F20s : S2 :=
  (.seq (.ops 2 [⟨0, (.some 2), .none, (.lbox 0 29 (.t 0))⟩, ⟨1, (.some 4), .none, (.lalloc 1 29 [(.int .i64 (0)), (.str []), .nils])⟩]) (.seq (.ops 1 [⟨0, (.some 5), .none,
    (.o (.s (.mv (.k .nils))))⟩]) (.seq (.seq (.ops 3 [⟨0, (.some 8), .none, (.o (.s (.mv (.t 1))))⟩, ⟨1, (.some 9), .none, (.o (.s (.len (.t 8))))⟩, ⟨2, (.some 10),
    .none, (.o (.s (.mv (.k (.int .i64 (0))))))⟩]) (.block 0 (.loop F20l0))) (.seq (.ops 3 [⟨0, (.some 26), .none, (.o (.s (.mv (.t 5))))⟩, ⟨1, (.some 27), .none,
    (.o (.s (.build [(.int .i64 (0)), (.str []), .nils] [(2, (1, (.t 26)))])))⟩, ⟨2, .none, .none, (.lstore 1 3 (.t 4) (.t 27))⟩]) .ret))))
noncomputable def F20b : Go.Code := Go.Proofs.Try.f20.body.getD .skip
theorem F20c : comp C [] F20b = some F20s.er := by kernel_rfl
theorem F20w : F20s.wf = true := by kernel_rfl
theorem F20d : Go.Proofs.Try.f20.body = some F20b := by kernel_rfl
@[simp] def F20q : List RV2 := [(.lcell 1 4 (.some 3))]
theorem F20r : compRVs C Go.Proofs.Try.f20.results.toList = some (F20q.map RV2.er) := by kernel_rfl
theorem F20e : Enters Go.Proofs.Try.prog 20 := enters_of Go.Proofs.Try.func20 (by kernel_rfl) (by kernel_rfl)

/-- scarf/doc.Text -- 0: box t2 -/
def F21s : S2 :=
  (.seq (.ops 1 [⟨0, (.some 2), .none, (.lalloc 0 29 [(.int .i64 (0)), (.str []), .nils])⟩]) (.seq (.seq (.ops 2 [⟨0, (.some 3), .none, (.o (.s (.mv (.t 0))))⟩, ⟨1,
    (.some 4), .none, (.o (.s (.bin .eql (.t 3) (.k (.str [])))))⟩]) (.cond (.t 4) (.seq (.ops 2 [⟨0, (.some 5), .none, (.o (.s (.build [(.int .i64 (0)), (.str []), .nils]
    [])))⟩, ⟨1, .none, .none, (.lstore 0 3 (.t 2) (.t 5))⟩]) .ret) .skip)) (.seq (.ops 3 [⟨0, (.some 6), .none, (.o (.s (.mv (.t 0))))⟩, ⟨1, (.some 7), .none,
    (.o (.s (.build [(.int .i64 (0)), (.str []), .nils] [(0, (1, (.k (.int .i64 (1))))), (1, (1, (.t 6)))])))⟩, ⟨2, .none, .none, (.lstore 0 3 (.t 2) (.t 7))⟩]) .ret)))
noncomputable def F21b : Go.Code := Go.Proofs.Try.f21.body.getD .skip
theorem F21c : comp C [] F21b = some F21s.er := by kernel_rfl
theorem F21w : F21s.wf = true := by kernel_rfl
theorem F21d : Go.Proofs.Try.f21.body = some F21b := by kernel_rfl
@[simp] def F21q : List RV2 := [(.lcell 0 2 (.some 3))]
theorem F21r : compRVs C Go.Proofs.Try.f21.results.toList = some (F21q.map RV2.er) := by kernel_rfl
theorem F21e : Enters Go.Proofs.Try.prog 21 := enters_of Go.Proofs.Try.func21 (by kernel_rfl) (by kernel_rfl)

/-- scarf/doc.Line -- 0: box t0 -/
def F22s : S2 :=
  (.seq (.ops 1 [⟨0, (.some 0), .none, (.lalloc 0 29 [(.int .i64 (0)), (.str []), .nils])⟩]) (.seq (.ops 2 [⟨0, (.some 1), .none, (.o (.s (.build [(.int .i64 (0)),
    (.str []), .nils] [(0, (1, (.k (.int .i64 (2)))))])))⟩, ⟨1, .none, .none, (.lstore 0 3 (.t 0) (.t 1))⟩]) .ret))
noncomputable def F22b : Go.Code := Go.Proofs.Try.f22.body.getD .skip
theorem F22c : comp C [] F22b = some F22s.er := by kernel_rfl
theorem F22w : F22s.wf = true := by kernel_rfl
theorem F22d : Go.Proofs.Try.f22.body = some F22b := by kernel_rfl
@[simp] def F22q : List RV2 := [(.lcell 0 0 (.some 3))]
theorem F22r : compRVs C Go.Proofs.Try.f22.results.toList = some (F22q.map RV2.er) := by kernel_rfl
theorem F22e : Enters Go.Proofs.Try.prog 22 := enters_of Go.Proofs.Try.func22 (by kernel_rfl) (by kernel_rfl)

/-- scarf/doc.Hard -- 0: box t0 -/
def F23s : S2 :=
  (.seq (.ops 1 [⟨0, (.some 0), .none, (.lalloc 0 29 [(.int .i64 (0)), (.str []), .nils])⟩]) (.seq (.ops 2 [⟨0, (.some 1), .none, (.o (.s (.build [(.int .i64 (0)),
    (.str []), .nils] [(0, (1, (.k (.int .i64 (4)))))])))⟩, ⟨1, .none, .none, (.lstore 0 3 (.t 0) (.t 1))⟩]) .ret))
noncomputable def F23b : Go.Code := Go.Proofs.Try.f23.body.getD .skip
theorem F23c : comp C [] F23b = some F23s.er := by kernel_rfl
theorem F23w : F23s.wf = true := by kernel_rfl
theorem F23d : Go.Proofs.Try.f23.body = some F23b := by kernel_rfl
@[simp] def F23q : List RV2 := [(.lcell 0 0 (.some 3))]
theorem F23r : compRVs C Go.Proofs.Try.f23.results.toList = some (F23q.map RV2.er) := by kernel_rfl
theorem F23e : Enters Go.Proofs.Try.prog 23 := enters_of Go.Proofs.Try.func23 (by kernel_rfl) (by kernel_rfl)

/-- scarf/scarfref07.Size -- 0: box t2 -/
def F24l0 : S2 :=
  (.seq (.seq (.ops 10 [⟨0, (.some 7), .none, (.o (.s (.mv (.t 6))))⟩, ⟨1, (.some 8), .none, (.o (.s (.fa 2 (.t 2))))⟩, ⟨2, (.some 9), .none, (.lload 0 .none (.t 8))⟩, ⟨3,
    (.some 10), .none, (.o (.s (.len (.t 9))))⟩, ⟨4, (.some 11), .none, (.o (.s (.bin .lss (.t 7) (.t 10))))⟩, ⟨5, (.some 12), .none, (.o (.s (.mv (.t 11))))⟩, ⟨6,
    (.some 13), (.some (12, .true)), (.o (.s (.mv (.t 5))))⟩, ⟨7, (.some 14), (.some (12, .true)), (.o (.s (.mv (.t 1))))⟩, ⟨8, (.some 15), (.some (12, .true)),
    (.o (.s (.bin .lss (.t 13) (.t 14))))⟩, ⟨9, (.some 16), .none, (.o (.s (.pick (.t 12) (.t 15) (.k (.bool .false)))))⟩]) (.cond (.t 16) .skip (.exit 0)))
    (.seq (.block 1 (.ops 12 [⟨0, (.some 19), .none, (.o (.s (.mv (.t 5))))⟩, ⟨1, (.some 20), .none, (.o (.s (.fa 2 (.t 2))))⟩, ⟨2, (.some 21), .none,
    (.lload 0 .none (.t 20))⟩, ⟨3, (.some 22), .none, (.o (.s (.mv (.t 6))))⟩, ⟨4, (.some 23), .none, (.o (.s (.ia 3 (.t 21) (.t 22))))⟩, ⟨5, (.some 24), .none,
    (.o (.s (.load (.some 3) (.t 23))))⟩, ⟨6, (.some 25), .none, (.o (.s (.mv (.t 1))))⟩, ⟨7, (.some 26), .none, (.o (.s (.mv (.t 5))))⟩, ⟨8, (.some 27), .none,
    (.o (.s (.bin .sub (.t 25) (.t 26))))⟩, ⟨9, (.some 28), .none, (.o (.call 24 [(.t 24), (.t 27)]))⟩, ⟨10, (.some 29), .none, (.o (.s (.bin .add (.t 19) (.t 28))))⟩,
    ⟨11, (.some 5), .none, (.o (.s (.mv (.t 29))))⟩])) (.ops 3 [⟨0, (.some 17), .none, (.o (.s (.mv (.t 6))))⟩, ⟨1, (.some 18), .none, (.o (.s (.bin .add (.t 17)
    (.k (.int .i64 (1))))))⟩, ⟨2, (.some 6), .none, (.o (.s (.mv (.t 18))))⟩])))
theorem F24l0w : F24l0.wf = true := by kernel_rfl
def F24s : S2 :=
  (.seq (.ops 2 [⟨0, (.some 2), .none, (.lbox 0 24 (.t 0))⟩, ⟨1, (.some 4), .none, (.o (.s (.mv (.k (.int .i64 (0))))))⟩]) (.seq (.ops 1 [⟨0, (.some 5), .none,
    (.o (.s (.mv (.k (.int .i64 (1))))))⟩]) (.seq (.seq (.ops 1 [⟨0, (.some 6), .none, (.o (.s (.mv (.k (.int .i64 (0))))))⟩]) (.block 0 (.loop F24l0))) (.seq (.ops 2 [⟨0,
    (.some 30), .none, (.o (.s (.mv (.t 5))))⟩, ⟨1, (.some 4), .none, (.o (.s (.mv (.t 30))))⟩]) .ret))))
noncomputable def F24b : Go.Code := Go.Proofs.Try.f24.body.getD .skip
theorem F24c : comp C [] F24b = some F24s.er := by kernel_rfl
theorem F24w : F24s.wf = true := by kernel_rfl
theorem F24d : Go.Proofs.Try.f24.body = some F24b := by kernel_rfl
@[simp] def F24q : List RV2 := [(.o (.tmp 4))]
theorem F24r : compRVs C Go.Proofs.Try.f24.results.toList = some (F24q.map RV2.er) := by kernel_rfl
theorem F24e : Enters Go.Proofs.Try.prog 24 := enters_of Go.Proofs.Try.func24 (by kernel_rfl) (by kernel_rfl)

/-- scarf/doc.Soft -- 0: box t0 -/
def F25s : S2 :=
  (.seq (.ops 1 [⟨0, (.some 0), .none, (.lalloc 0 29 [(.int .i64 (0)), (.str []), .nils])⟩]) (.seq (.ops 2 [⟨0, (.some 1), .none, (.o (.s (.build [(.int .i64 (0)),
    (.str []), .nils] [(0, (1, (.k (.int .i64 (3)))))])))⟩, ⟨1, .none, .none, (.lstore 0 3 (.t 0) (.t 1))⟩]) .ret))
noncomputable def F25b : Go.Code := Go.Proofs.Try.f25.body.getD .skip
theorem F25c : comp C [] F25b = some F25s.er := by kernel_rfl
theorem F25w : F25s.wf = true := by kernel_rfl
theorem F25d : Go.Proofs.Try.f25.body = some F25b := by kernel_rfl
@[simp] def F25q : List RV2 := [(.lcell 0 0 (.some 3))]
theorem F25r : compRVs C Go.Proofs.Try.f25.results.toList = some (F25q.map RV2.er) := by kernel_rfl
theorem F25e : Enters Go.Proofs.Try.prog 25 := enters_of Go.Proofs.Try.func25 (by kernel_rfl) (by kernel_rfl)

/-- (*strings.Builder).WriteString --  -/
def F26s : S2 :=
  (.seq (.ops 2 [⟨0, (.some 4), .none, (.o (.s (.mv (.k (.int .i64 (0))))))⟩, ⟨1, (.some 5), .none, (.o (.s (.mv (.k .nili))))⟩]) (.seq (.ops 2 [⟨0, (.some 6), .none,
    (.o (.s (.mv (.t 0))))⟩, ⟨1, (.some 7), .none, (.o (.call 31 [(.t 6)]))⟩]) (.seq (.ops 10 [⟨0, (.some 8), .none, (.o (.s (.mv (.t 0))))⟩, ⟨1, (.some 9), .none,
    (.o (.s (.mv (.t 0))))⟩, ⟨2, (.some 10), .none, (.o (.s (.nilck (.t 9))))⟩, ⟨3, (.some 11), .none, (.o (.s (.fa 1 (.t 10))))⟩, ⟨4, (.some 12), .none,
    (.o (.s (.load .none (.t 11))))⟩, ⟨5, (.some 13), .none, (.o (.s (.mv (.t 1))))⟩, ⟨6, (.some 14), .none, (.o (.s (.app 5 1 1 (.t 12) (.t 13))))⟩, ⟨7, (.some 15),
    .none, (.o (.s (.nilck (.t 8))))⟩, ⟨8, (.some 16), .none, (.o (.s (.fa 1 (.t 15))))⟩, ⟨9, .none, .none, (.o (.s (.store 1 (.t 16) (.t 14))))⟩]) (.seq (.ops 4 [⟨0,
    (.some 17), .none, (.o (.s (.mv (.t 1))))⟩, ⟨1, (.some 18), .none, (.o (.s (.lens (.t 17))))⟩, ⟨2, (.some 4), .none, (.o (.s (.mv (.t 18))))⟩, ⟨3, (.some 5), .none,
    (.o (.s (.mv (.k .nili))))⟩]) .ret))))
noncomputable def F26b : Go.Code := Go.Proofs.Try.f26.body.getD .skip
theorem F26c : comp C [] F26b = some F26s.er := by kernel_rfl
theorem F26w : F26s.wf = true := by kernel_rfl
theorem F26d : Go.Proofs.Try.f26.body = some F26b := by kernel_rfl
@[simp] def F26q : List RV2 := [(.o (.tmp 4)), (.o (.tmp 5))]
theorem F26r : compRVs C Go.Proofs.Try.f26.results.toList = some (F26q.map RV2.er) := by kernel_rfl
theorem F26e : Enters Go.Proofs.Try.prog 26 := enters_of Go.Proofs.Try.func26 (by kernel_rfl) (by kernel_rfl)

/-- (*strings.Builder).WriteByte --  -/
def F27s : S2 :=
  (.seq (.ops 1 [⟨0, (.some 4), .none, (.o (.s (.mv (.k .nili))))⟩]) (.seq (.ops 2 [⟨0, (.some 5), .none, (.o (.s (.mv (.t 0))))⟩, ⟨1, (.some 6), .none,
    (.o (.call 31 [(.t 5)]))⟩]) (.seq (.ops 11 [⟨0, (.some 7), .none, (.o (.s (.mv (.t 0))))⟩, ⟨1, (.some 8), .none, (.o (.s (.mv (.t 0))))⟩, ⟨2, (.some 9), .none,
    (.o (.s (.nilck (.t 8))))⟩, ⟨3, (.some 10), .none, (.o (.s (.fa 1 (.t 9))))⟩, ⟨4, (.some 11), .none, (.o (.s (.load .none (.t 10))))⟩, ⟨5, (.some 12), .none,
    (.o (.s (.mv (.t 1))))⟩, ⟨6, (.some 13), .none, (.lbsl 0 5 1 1 [(.int .u8 (0))] [(0, (.t 12))] .false)⟩, ⟨7, (.some 14), .none, (.o (.s (.app 5 1 1 (.t 11)
    (.t 13))))⟩, ⟨8, (.some 15), .none, (.o (.s (.nilck (.t 7))))⟩, ⟨9, (.some 16), .none, (.o (.s (.fa 1 (.t 15))))⟩, ⟨10, .none, .none, (.o (.s (.store 1 (.t 16)
    (.t 14))))⟩]) (.seq (.ops 1 [⟨0, (.some 4), .none, (.o (.s (.mv (.k .nili))))⟩]) .ret))))
noncomputable def F27b : Go.Code := Go.Proofs.Try.f27.body.getD .skip
theorem F27c : comp C [] F27b = some F27s.er := by kernel_rfl
theorem F27w : F27s.wf = true := by kernel_rfl
theorem F27d : Go.Proofs.Try.f27.body = some F27b := by kernel_rfl
@[simp] def F27q : List RV2 := [(.o (.tmp 4))]
theorem F27r : compRVs C Go.Proofs.Try.f27.results.toList = some (F27q.map RV2.er) := by kernel_rfl
theorem F27e : Enters Go.Proofs.Try.prog 27 := enters_of Go.Proofs.Try.func27 (by kernel_rfl) (by kernel_rfl)

/-- (*strings.Builder).String --  -/
def F28s : S2 :=
  (.seq (.ops 1 [⟨0, (.some 2), .none, (.o (.s (.mv (.k (.str [])))))⟩]) (.seq (.dops 12 [(⟨0, (.some 3), .none, (.o (.s (.mv (.t 0))))⟩, (.mk 0 [])), (⟨1, (.some 4), .none,
    (.o (.s (.nilck (.t 3))))⟩, (.mk 0 [])), (⟨2, (.some 5), .none, (.o (.s (.fa 1 (.t 4))))⟩, (.mk 0 [])), (⟨5, (.some 8), .none, (.o (.s (.mv (.t 0))))⟩, (.mk 0 [])),
    (⟨6, (.some 9), .none, (.o (.s (.nilck (.t 8))))⟩, (.mk 0 [])), (⟨7, (.some 10), .none, (.o (.s (.fa 1 (.t 9))))⟩, (.mk 0 [])), (⟨3, (.some 6), .none,
    (.o (.s (.load .none (.t 5))))⟩, (.mk 1 [])), (⟨4, (.some 7), .none, (.o (.s (.sdata (.t 6))))⟩, (.mk 0 [])), (⟨8, (.some 11), .none, (.o (.s (.load .none (.t 10))))⟩,
    (.mk 1 [])), (⟨9, (.some 12), .none, (.o (.s (.len (.t 11))))⟩, (.mk 0 [])), (⟨10, (.some 13), .none, (.o (.s (.ustr 5 (.t 7) (.t 12))))⟩, (.mk 1 [])), (⟨11,
    (.some 2), .none, (.o (.s (.mv (.t 13))))⟩, (.mk 0 []))]) .ret))
noncomputable def F28b : Go.Code := Go.Proofs.Try.f28.body.getD .skip
theorem F28c : comp C [] F28b = some F28s.er := by kernel_rfl
theorem F28w : F28s.wf = true := by kernel_rfl
theorem F28d : Go.Proofs.Try.f28.body = some F28b := by kernel_rfl
@[simp] def F28q : List RV2 := [(.o (.tmp 2))]
theorem F28r : compRVs C Go.Proofs.Try.f28.results.toList = some (F28q.map RV2.er) := by kernel_rfl
theorem F28e : Enters Go.Proofs.Try.prog 28 := enters_of Go.Proofs.Try.func28 (by kernel_rfl) (by kernel_rfl)

/-- (scarf/doc.Doc).Plain$1 -- 0: box t3; 1: box t5 -/
def F29l0 : S2 :=
  (.seq (.ops 1 [⟨0, (.some 21), .none, (.o (.s (.bin .lss (.t 20) (.t 19))))⟩]) (.seq (.cond (.t 21) .skip (.exit 0)) (.seq (.block 1 (.seq (.ops 4 [⟨0, (.some 22), .none,
    (.o (.s (.ia 3 (.t 18) (.t 20))))⟩, ⟨1, (.some 23), .none, (.o (.s (.load (.some 3) (.t 22))))⟩, ⟨2, (.some 5), .none, (.lalloc 1 29 [(.int .i64 (0)), (.str []),
    .nils])⟩, ⟨3, .none, .none, (.lstore 1 3 (.t 5) (.t 23))⟩]) (.ops 3 [⟨0, (.some 24), .none, (.o (.s (.load .none (.t 2))))⟩, ⟨1, (.some 25), .none, (.lload 1 (.some 3)
    (.t 5))⟩, ⟨2, (.some 26), .none, (.o (.callv (.t 24) [(.t 25)]))⟩]))) (.ops 2 [⟨0, (.some 27), .none, (.o (.s (.bin .add (.t 20) (.k (.int .i64 (1))))))⟩, ⟨1,
    (.some 20), .none, (.o (.s (.mv (.t 27))))⟩]))))
theorem F29l0w : F29l0.wf = true := by kernel_rfl
def F29s : S2 :=
  (.seq (.ops 1 [⟨0, (.some 3), .none, (.lbox 0 29 (.t 0))⟩]) (.seq (.seq (.ops 3 [⟨0, (.some 6), .none, (.o (.s (.fa 0 (.t 3))))⟩, ⟨1, (.some 7), .none,
    (.lload 0 .none (.t 6))⟩, ⟨2, (.some 8), .none, (.o (.s (.bin .gtr (.t 7) (.k (.int .i64 (0))))))⟩]) (.cond (.t 8) (.ops 9 [⟨0, (.some 9), .none,
    (.o (.s (.load .none (.t 1))))⟩, ⟨1, (.some 10), .none, (.o (.s (.fa 0 (.t 3))))⟩, ⟨2, (.some 11), .none, (.lload 0 .none (.t 10))⟩, ⟨3, (.some 12), .none,
    (.o (.s (.fa 1 (.t 3))))⟩, ⟨4, (.some 13), .none, (.lload 0 .none (.t 12))⟩, ⟨5, (.some 14), .none, (.o (.s (.build [(.int .i64 (0)), (.str [])] [(0, (1, (.t 11))),
    (1, (1, (.t 13)))])))⟩, ⟨6, (.some 15), .none, (.lbsl 2 43 2 1 [(.int .i64 (0)), (.str [])] [(0, (.t 14))] .false)⟩, ⟨7, (.some 16), .none,
    (.o (.s (.app 43 2 24 (.t 9) (.t 15))))⟩, ⟨8, .none, .none, (.o (.s (.store 1 (.t 1) (.t 16))))⟩]) .skip)) (.seq (.seq (.ops 4 [⟨0, (.some 17), .none,
    (.o (.s (.fa 2 (.t 3))))⟩, ⟨1, (.some 18), .none, (.lload 0 .none (.t 17))⟩, ⟨2, (.some 19), .none, (.o (.s (.len (.t 18))))⟩, ⟨3, (.some 20), .none,
    (.o (.s (.mv (.k (.int .i64 (0))))))⟩]) (.block 0 (.loop F29l0))) (.seq (.ops 3 [⟨0, (.some 28), .none, (.o (.s (.fa 0 (.t 3))))⟩, ⟨1, (.some 29), .none,
    (.lload 0 .none (.t 28))⟩, ⟨2, (.some 30), .none, (.o (.s (.bin .gtr (.t 29) (.k (.int .i64 (4))))))⟩]) (.cond (.t 30) (.ops 8 [⟨0, (.some 31), .none,
    (.o (.s (.load .none (.t 1))))⟩, ⟨1, (.some 32), .none, (.o (.s (.fa 0 (.t 3))))⟩, ⟨2, (.some 33), .none, (.lload 0 .none (.t 32))⟩, ⟨3, (.some 34), .none,
    (.o (.s (.bin .add (.t 33) (.k (.int .i64 (1))))))⟩, ⟨4, (.some 35), .none, (.o (.s (.build [(.int .i64 (0)), (.str [])] [(0, (1, (.t 34)))])))⟩, ⟨5, (.some 36),
    .none, (.lbsl 2 43 2 1 [(.int .i64 (0)), (.str [])] [(0, (.t 35))] .false)⟩, ⟨6, (.some 37), .none, (.o (.s (.app 43 2 24 (.t 31) (.t 36))))⟩, ⟨7, .none, .none,
    (.o (.s (.store 1 (.t 1) (.t 37))))⟩]) .skip)))))
noncomputable def F29b : Go.Code := Go.Proofs.Try.f29.body.getD .skip
theorem F29c : comp C [] F29b = some F29s.er := by kernel_rfl
theorem F29w : F29s.wf = true := by kernel_rfl
theorem F29d : Go.Proofs.Try.f29.body = some F29b := by kernel_rfl
@[simp] def F29q : List RV2 := []
theorem F29r : compRVs C Go.Proofs.Try.f29.results.toList = some (F29q.map RV2.er) := by kernel_rfl
theorem F29e : Enters Go.Proofs.Try.prog 29 := enters_of Go.Proofs.Try.func29 (by kernel_rfl) (by kernel_rfl)

/-- slices.Clone[[]scarf/doc.Doc,scarf/doc.Doc] -- 0: grows t2 t5 t7 -/
def F30s : S2 :=
  (.seq (.ops 1 [⟨0, (.some 2), .none, (.o (.s (.mv (.k .nils))))⟩]) (.seq (.seq (.ops 2 [⟨0, (.some 3), .none, (.o (.s (.mv (.t 0))))⟩, ⟨1, (.some 4), .none,
    (.o (.s (.eqs .slice .false (.t 3) (.k .nils))))⟩]) (.cond (.t 4) (.seq (.ops 1 [⟨0, (.some 2), .none, (.o (.s (.mv (.k .nils))))⟩]) .ret) .skip)) (.seq (.ops 4 [⟨0,
    (.some 5), .none, (.lbsl 0 29 3 0 [(.int .i64 (0)), (.str []), .nils] [] .false)⟩, ⟨1, (.some 6), .none, (.o (.s (.mv (.t 0))))⟩, ⟨2, (.some 7), .none,
    (.lapp 0 29 3 48 (.t 5) (.t 6))⟩, ⟨3, (.some 2), .none, (.o (.s (.mv (.t 7))))⟩]) .ret)))
noncomputable def F30b : Go.Code := Go.Proofs.Try.f30.body.getD .skip
theorem F30c : comp C [] F30b = some F30s.er := by kernel_rfl
theorem F30w : F30s.wf = true := by kernel_rfl
theorem F30d : Go.Proofs.Try.f30.body = some F30b := by kernel_rfl
@[simp] def F30q : List RV2 := [(.o (.tmp 2))]
theorem F30r : compRVs C Go.Proofs.Try.f30.results.toList = some (F30q.map RV2.er) := by kernel_rfl
theorem F30e : Enters Go.Proofs.Try.prog 30 := enters_of Go.Proofs.Try.func30 (by kernel_rfl) (by kernel_rfl)

/-- (*strings.Builder).copyCheck --  -/
def F31s : S2 :=
  (.seq (.ops 5 [⟨0, (.some 2), .none, (.o (.s (.mv (.t 0))))⟩, ⟨1, (.some 3), .none, (.o (.s (.nilck (.t 2))))⟩, ⟨2, (.some 4), .none, (.o (.s (.fa 0 (.t 3))))⟩, ⟨3,
    (.some 5), .none, (.o (.s (.load .none (.t 4))))⟩, ⟨4, (.some 6), .none, (.o (.s (.eqs .ptr .false (.t 5) (.k .nilp))))⟩]) (.cond (.t 6) (.ops 8 [⟨0, (.some 7), .none,
    (.o (.s (.mv (.t 0))))⟩, ⟨1, (.some 8), .none, (.o (.s (.mv (.t 0))))⟩, ⟨2, (.some 9), .none, (.o (.s (.cvpu (.t 8))))⟩, ⟨3, (.some 10), .none,
    (.o (.s (.idn (.t 9))))⟩, ⟨4, (.some 11), .none, (.o (.s (.cvup [(53, 2), (54, 2)] (.t 10))))⟩, ⟨5, (.some 12), .none, (.o (.s (.nilck (.t 7))))⟩, ⟨6, (.some 13),
    .none, (.o (.s (.fa 0 (.t 12))))⟩, ⟨7, .none, .none, (.o (.s (.store 1 (.t 13) (.t 11))))⟩]) (.seq (.ops 6 [⟨0, (.some 14), .none, (.o (.s (.mv (.t 0))))⟩, ⟨1,
    (.some 15), .none, (.o (.s (.nilck (.t 14))))⟩, ⟨2, (.some 16), .none, (.o (.s (.fa 0 (.t 15))))⟩, ⟨3, (.some 17), .none, (.o (.s (.load .none (.t 16))))⟩, ⟨4,
    (.some 18), .none, (.o (.s (.mv (.t 0))))⟩, ⟨5, (.some 19), .none, (.o (.s (.eqs .ptr .true (.t 17) (.t 18))))⟩]) (.cond (.t 19) .refuse .skip))))
noncomputable def F31b : Go.Code := Go.Proofs.Try.f31.body.getD .skip
theorem F31c : comp C [] F31b = some F31s.er := by kernel_rfl
theorem F31w : F31s.wf = true := by kernel_rfl
theorem F31d : Go.Proofs.Try.f31.body = some F31b := by kernel_rfl
@[simp] def F31q : List RV2 := []
theorem F31r : compRVs C Go.Proofs.Try.f31.results.toList = some (F31q.map RV2.er) := by kernel_rfl
theorem F31e : Enters Go.Proofs.Try.prog 31 := enters_of Go.Proofs.Try.func31 (by kernel_rfl) (by kernel_rfl)

/-- (scarf/doc.Doc).Plain$1 -- 0: box t3; 1: box t5 -/
def G29l0 : S2 :=
  (.seq (.ops 1 [⟨0, (.some 21), .none, (.o (.s (.bin .lss (.t 20) (.t 19))))⟩]) (.seq (.cond (.t 21) .skip (.exit 0)) (.seq (.block 1 (.seq (.ops 4 [⟨0, (.some 22), .none,
    (.o (.s (.ia 3 (.t 18) (.t 20))))⟩, ⟨1, (.some 23), .none, (.o (.s (.load (.some 3) (.t 22))))⟩, ⟨2, (.some 5), .none, (.lalloc 1 29 [(.int .i64 (0)), (.str []),
    .nils])⟩, ⟨3, .none, .none, (.lstore 1 3 (.t 5) (.t 23))⟩]) (.ops 3 [⟨0, (.some 24), .none, (.o (.s (.load .none (.t 2))))⟩, ⟨1, (.some 25), .none, (.lload 1 (.some 3)
    (.t 5))⟩, ⟨2, (.some 26), .none, (.o (.callv (.t 24) [(.t 25)]))⟩]))) (.ops 2 [⟨0, (.some 27), .none, (.o (.s (.bin .add (.t 20) (.k (.int .i64 (1))))))⟩, ⟨1,
    (.some 20), .none, (.o (.s (.mv (.t 27))))⟩]))))
theorem G29l0w : G29l0.wf = true := by kernel_rfl
def G29s : S2 :=
  (.seq (.ops 1 [⟨0, (.some 3), .none, (.lbox 0 29 (.t 0))⟩]) (.seq (.seq (.ops 3 [⟨0, (.some 6), .none, (.o (.s (.fa 0 (.t 3))))⟩, ⟨1, (.some 7), .none,
    (.lload 0 .none (.t 6))⟩, ⟨2, (.some 8), .none, (.o (.s (.bin .gtr (.t 7) (.k (.int .i64 (0))))))⟩]) (.cond (.t 8) (.ops 9 [⟨0, (.some 9), .none,
    (.o (.s (.load .none (.t 1))))⟩, ⟨1, (.some 10), .none, (.o (.s (.fa 0 (.t 3))))⟩, ⟨2, (.some 11), .none, (.lload 0 .none (.t 10))⟩, ⟨3, (.some 12), .none,
    (.o (.s (.fa 1 (.t 3))))⟩, ⟨4, (.some 13), .none, (.lload 0 .none (.t 12))⟩, ⟨5, (.some 14), .none, (.o (.s (.build [(.int .i64 (0)), (.str [])] [(0, (1, (.t 11))),
    (1, (1, (.t 13)))])))⟩, ⟨6, (.some 15), .none, (.lbsl 2 43 2 1 [(.int .i64 (0)), (.str [])] [(0, (.t 14))] .false)⟩, ⟨7, (.some 16), .none,
    (.o (.s (.grow 43 2 24 (.t 9) (.t 15))))⟩, ⟨8, .none, .none, (.o (.s (.store 1 (.t 1) (.t 16))))⟩]) .skip)) (.seq (.seq (.ops 4 [⟨0, (.some 17), .none,
    (.o (.s (.fa 2 (.t 3))))⟩, ⟨1, (.some 18), .none, (.lload 0 .none (.t 17))⟩, ⟨2, (.some 19), .none, (.o (.s (.len (.t 18))))⟩, ⟨3, (.some 20), .none,
    (.o (.s (.mv (.k (.int .i64 (0))))))⟩]) (.block 0 (.loop G29l0))) (.seq (.ops 3 [⟨0, (.some 28), .none, (.o (.s (.fa 0 (.t 3))))⟩, ⟨1, (.some 29), .none,
    (.lload 0 .none (.t 28))⟩, ⟨2, (.some 30), .none, (.o (.s (.bin .gtr (.t 29) (.k (.int .i64 (4))))))⟩]) (.cond (.t 30) (.ops 8 [⟨0, (.some 31), .none,
    (.o (.s (.load .none (.t 1))))⟩, ⟨1, (.some 32), .none, (.o (.s (.fa 0 (.t 3))))⟩, ⟨2, (.some 33), .none, (.lload 0 .none (.t 32))⟩, ⟨3, (.some 34), .none,
    (.o (.s (.bin .add (.t 33) (.k (.int .i64 (1))))))⟩, ⟨4, (.some 35), .none, (.o (.s (.build [(.int .i64 (0)), (.str [])] [(0, (1, (.t 34)))])))⟩, ⟨5, (.some 36),
    .none, (.lbsl 2 43 2 1 [(.int .i64 (0)), (.str [])] [(0, (.t 35))] .false)⟩, ⟨6, (.some 37), .none, (.o (.s (.grow 43 2 24 (.t 31) (.t 36))))⟩, ⟨7, .none, .none,
    (.o (.s (.store 1 (.t 1) (.t 37))))⟩]) .skip)))))
noncomputable def G29b : Go.Code := Go.Proofs.Try.f29.body.getD .skip
theorem G29c : comp C [(2, 7), (9, 6)] G29b = some G29s.er := by kernel_rfl
theorem G29w : G29s.wf = true := by kernel_rfl
theorem G29d : Go.Proofs.Try.f29.body = some G29b := by kernel_rfl
@[simp] def G29q : List RV2 := []
theorem G29r : compRVs C Go.Proofs.Try.f29.results.toList = some (G29q.map RV2.er) := by kernel_rfl
theorem G29e : Enters Go.Proofs.Try.prog 29 := enters_of Go.Proofs.Try.func29 (by kernel_rfl) (by kernel_rfl)

end Go.Proofs.Ytgahmpfpnclefaa.Lt
