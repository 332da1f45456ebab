/- The chapter's example; the law of pieces. -/
import Derived.Test.YtgahmpfpnclefaaDoc9
namespace Go.Proofs.Ytgahmpfpnclefaa.Lt
open Go.Proofs.YtgahmpfpnclefaaW.Abs Go
set_option maxRecDepth 100000
set_option maxHeartbeats 1000000
set_option linter.unusedSimpArgs false
set_option linter.unusedVariables false
variable {W0 : World}

theorem built_ok : ∀ t : T, t.ok → (built t).ok
  | .mk k s nil kids, h => by
    obtain ⟨hs, hk, hkids⟩ := T.ok_mk.1 h
    have ih : ∀ x ∈ kids, (built x).ok := fun x hx => built_ok x (hkids x hx)
    have hrow : (row true (builtL kids)).ok := by
      rw [row, T.ok_mk]
      refine ⟨by simp, by simpa [builtL_eq] using hk, fun x hx => ?_⟩
      rw [builtL_eq] at hx
      obtain ⟨y, hy, rfl⟩ := List.mem_map.1 hx
      exact ih y hy
    have hp : ∀ k, (piece1 k).ok := fun k => by rw [piece1, T.ok_mk]; simp
    simp only [built]
    split
    · unfold text none'; split <;> (rw [T.ok_mk]; simp [hs])
    split
    · exact hp _
    split
    · exact hp _
    split
    · exact hp _
    split
    · rw [nest, T.ok_mk]; simp [hrow]
    split
    · rw [group, T.ok_mk]; simp [hrow]
    · exact hrow
termination_by t => SizeOf.sizeOf t
decreasing_by
  have := List.sizeOf_lt_of_mem hx
  simp; omega

mutual
theorem full_s : ∀ t : T, t.ok → ∀ p ∈ fullP t, p.s.length ≤ 140737488355328
  | .mk k s nil kids, h, p, hp => by
    obtain ⟨hs, hk, hkids⟩ := T.ok_mk.1 h
    simp only [fullP] at hp
    split at hp
    · split at hp
      · simp at hp
      · simp at hp; subst hp; exact hs
    split at hp
    · simp at hp; subst hp; simp
    split at hp
    · simp only [List.cons_append, List.mem_cons, List.mem_append, List.not_mem_nil, or_false] at hp
      rcases hp with rfl | hp | rfl
      · simp
      · exact full_sL kids hkids p hp
      · simp
    · exact full_sL kids hkids p hp
theorem full_sL : ∀ l : List T, (∀ x, x ∈ l → x.ok) → ∀ p ∈ fullL l, p.s.length ≤ 140737488355328
  | [], _, p, hp => by simp [fullL] at hp
  | t :: r, h, p, hp => by
    simp only [fullL, List.mem_append] at hp
    rcases hp with hp | hp
    · exact full_s t (h t (by simp)) p hp
    · exact full_sL r (fun x hx => h x (by simp [hx])) p hp
end


theorem wid_bd : ∀ l : List Pc, l.length ≤ 10000 → (∀ p ∈ l, p.s.length ≤ 10000) → wid l ≤ 10001 * l.length
  | [], _, _ => by simp [wid]
  | p :: r, h, hp => by
    have := wid_bd r (by simp at h; omega) (fun q hq => hp q (by simp [hq]))
    have := hp p (by simp)
    simp only [wid, List.length_cons]; omega

def exIn : T := row false [piece1 3, text [97, 44], piece1 2, text [98]]
def exDoc : T := row false [text [102, 40], nest exIn, text [41]]
theorem exDoc_plain : plain exDoc = [⟨1, [102, 40]⟩, ⟨5, []⟩, ⟨3, []⟩, ⟨1, [97, 44]⟩, ⟨2, []⟩, ⟨1, [98]⟩, ⟨6, []⟩, ⟨1, [41]⟩] := by
  have w6 : IntKind.i64.wrap 6 = 6 := by decide
  simp [exDoc, exIn, row, text, nest, piece1, plain, plainL, w6]
theorem piece1_ok (k : Int) : (piece1 k).ok := by rw [piece1, T.ok_mk]; simp
theorem text_ok {l : List UInt8} (h : l.length ≤ 140737488355328) : (text l).ok := by
  unfold text none'; split <;> (rw [T.ok_mk]; simp [h])
theorem row_ok {nil : Bool} {l : List T} (h : l.length * 48 ≤ 140737488355328) (hl : ∀ x, x ∈ l → x.ok) : (row nil l).ok := by
  rw [row, T.ok_mk]; exact ⟨by simp, h, hl⟩
theorem nest_ok {t : T} (h : t.ok) : (nest t).ok := by rw [nest, T.ok_mk]; simp [h]
theorem group_ok {t : T} (h : t.ok) : (group t).ok := by rw [group, T.ok_mk]; simp [h]
theorem exDoc_ok : exDoc.ok := by
  refine row_ok (by simp) (fun x hx => ?_)
  simp at hx
  rcases hx with rfl | rfl | rfl
  · exact text_ok (by simp)
  · refine nest_ok (row_ok (by simp) (fun x hx => ?_))
    simp at hx
    rcases hx with rfl | rfl | rfl | rfl
    · exact piece1_ok _
    · exact text_ok (by simp)
    · exact piece1_ok _
    · exact text_ok (by simp)
  · exact text_ok (by simp)
theorem row2_plain (nil : Bool) (a b : T) : plain (row nil [a, b]) = plain a ++ plain b := by simp [plainL_row, plainL]
theorem piece1_plain {k : Int} (h0 : 0 < k) (h4 : ¬ 4 < k) : plain (piece1 k) = [⟨k, []⟩] := by simp [piece1, plain, plainL, h0, h4]

theorem known_spec : PCall Try.prog W0 9 [] (.bool true) := by
  refine pcall2 cok Try.func9 F9d F9e F9c F9w F9r (fun N => ?_)
  refine ev2I_intro ?_
  simp [F9s]
  refine hcallI_pure (text_spec [102, 40]) (by simp) (fun M hM => ?_)
  simp
  refine hcallI_pure soft_spec rfl (fun M hM => ?_)
  simp
  refine hcallI_pure (text_spec [97, 44]) (by simp) (fun M hM => ?_)
  simp
  refine hcallI_pure line_spec rfl (fun M hM => ?_)
  simp
  refine hcallI_pure (text_spec [98]) (by simp) (fun M hM => ?_)
  simp
  refine hcallI_pure (row_spec false [piece1 3, text [97, 44], piece1 2, text [98]] (by simp)) (by simp) (fun M hM => ?_)
  simp
  refine hcallI_pure (nest_spec exIn) (by simp [exIn]) (fun M hM => ?_)
  simp
  refine hcallI_pure (text_spec [41]) (by simp) (fun M hM => ?_)
  simp
  refine hcallI_pure (row_spec false [text [102, 40], nest exIn, text [41]] (by simp)) (by simp) (fun M hM => ?_)
  simp
  refine hcallI_pure (dflat_spec exDoc exDoc_ok (by rw [exDoc_plain]; simp) (by rw [exDoc_plain]; simp [wid])) (by simp [exDoc]) (fun M hM => ?_)
  simp [exDoc_plain, flatOf]
  refine pcallI_pure' hard_spec rfl ?_
  simp
  refine andI_intro (by dsimp only at *; omega) ?_
  simp
  refine pcallI_pure' (row_spec false [exDoc, piece1 4] (by simp)) (by simp [exDoc]) ?_
  simp
  have hp2 : plain (row false [exDoc, piece1 4]) = plain exDoc ++ [⟨4, []⟩] := by rw [row2_plain, piece1_plain (by decide) (by decide)]
  refine pcallI_pure' (dflat_spec (row false [exDoc, piece1 4]) (row_ok (by simp) (fun x hx => by simp at hx; rcases hx with rfl | rfl; exact exDoc_ok; exact piece1_ok _)) (by rw [hp2, exDoc_plain]; simp) (by rw [hp2, exDoc_plain]; simp [wid])) (by simp) ?_
  simp [hp2, exDoc_plain, flatOf]
  intro M hM
  refine hcallI_pure (plain_spec exDoc exDoc_ok (by rw [exDoc_plain]; simp)) (by simp [exDoc]) (fun M hM => ?_)
  simp [exDoc_plain]
end Go.Proofs.Ytgahmpfpnclefaa.Lt
