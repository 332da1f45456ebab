/- The documents' small functions. -/
import Derived.Test.YtgahmpfpnclefaaBld
import Derived.Test.YtgahmpfpnclefaaA20
namespace Go.Proofs.Ytgahmpfpnclefaa.Lt
open Go.Proofs.YtgahmpfpnclefaaW.Abs Go
set_option maxRecDepth 100000
set_option maxHeartbeats 2000000
set_option linter.unusedSimpArgs false
set_option linter.unusedVariables false
variable {W0 : World}

/-- nothing -/
def none' : T := .mk 0 [] true []
@[simp] theorem none'_enc : none'.enc = [.int .i64 0, .str [], .nils] := by simp [none', T.enc_mk]

def text (l : List UInt8) : T := if l = [] then none' else .mk 1 l true []
def piece1 (k : Int) : T := .mk k [] true []
def nest (t : T) : T := .mk 5 [] false [t]
def group (t : T) : T := .mk 7 [] false [t]
def row (nil : Bool) (l : List T) : T := .mk 0 [] nil l

theorem text_spec (l : List UInt8) : PCall Try.prog W0 21 [.str l] (.agg (text l).enc) := by
  refine pcall2 cok Try.func21 F21d F21e F21c F21w F21r (fun N => ?_)
  refine ev2I_intro ?_
  simp [F21s]
  refine condI_split (fun h => ?_) (fun h => ?_)
  · simp [List.isEmpty_iff.1 h, text]
  · have h' : l ≠ [] := by intro e; rw [e] at h; cases h
    simp [h', text, T.enc_mk]

theorem line_spec : PCall Try.prog W0 22 [] (.agg (piece1 2).enc) := by
  refine pcall2 cok Try.func22 F22d F22e F22c F22w F22r (fun N => ?_)
  refine ev2I_intro ?_
  simp [F22s, piece1, T.enc_mk]
theorem soft_spec : PCall Try.prog W0 25 [] (.agg (piece1 3).enc) := by
  refine pcall2 cok Try.func25 F25d F25e F25c F25w F25r (fun N => ?_)
  refine ev2I_intro ?_
  simp [F25s, piece1, T.enc_mk]
theorem hard_spec : PCall Try.prog W0 23 [] (.agg (piece1 4).enc) := by
  refine pcall2 cok Try.func23 F23d F23e F23c F23w F23r (fun N => ?_)
  refine ev2I_intro ?_
  simp [F23s, piece1, T.enc_mk]

theorem nest_spec (t : T) : PCall Try.prog W0 17 [.agg t.enc] (.agg (nest t).enc) := by
  refine pcall2 cok Try.func17 F17d F17e F17c F17w F17r (fun N => ?_)
  refine ev2I_intro ?_
  obtain ⟨k, s, nil, kids⟩ := t
  simp [F17s, nest, T.enc_mk]
theorem group_spec (t : T) : PCall Try.prog W0 18 [.agg t.enc] (.agg (group t).enc) := by
  refine pcall2 cok Try.func18 F18d F18e F18c F18w F18r (fun N => ?_)
  refine ev2I_intro ?_
  obtain ⟨k, s, nil, kids⟩ := t
  simp [F18s, group, T.enc_mk]

theorem clone_spec (nil : Bool) (l : List T) (hb : l.length * 48 ≤ 140737488355328) : PCall Try.prog W0 30 [kidsV nil l] (kidsV nil l) := by
  refine pcall2 cok Try.func30 F30d F30e F30c F30w F30r (fun N => ?_)
  refine ev2I_intro ?_
  rcases kidsV_cases nil l with ⟨h, _, e⟩ | h
  · simp [F30s, h]
  · have h1 : l.length ≤ 4611686018427387904 := by omega
    simp (disch := first | omega | (simp only [List.length_set]; omega)) [F30s, h1, hb, h]

theorem row_spec (nil : Bool) (l : List T) (hb : l.length * 48 ≤ 140737488355328) : PCall Try.prog W0 16 [kidsV nil l] (.agg (row nil l).enc) := by
  refine pcall2 cok Try.func16 F16d F16e F16c F16w F16r (fun N => ?_)
  refine ev2I_intro ?_
  simp [F16s]
  refine hcallI_pure (clone_spec nil l hb) (by simp) (fun m hm => ?_)
  simp [F16q, row, T.enc_mk]
end Go.Proofs.Ytgahmpfpnclefaa.Lt
