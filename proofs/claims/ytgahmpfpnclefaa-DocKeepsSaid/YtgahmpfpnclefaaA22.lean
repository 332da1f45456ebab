/- Lists by value; lists of numbers and of pairs. -/
import Derived.Test.YtgahmpfpnclefaaB3
namespace Go.Proofs.YtgahmpfpnclefaaW.Abs
open Go.RowKit
set_option linter.unusedVariables false
set_option linter.unusedSimpArgs false

theorem drop_at {α : Type} {l : List α} {i : Nat} {t : α} (h : l[i]? = some t) : l.drop i = t :: l.drop (i + 1) := by
  have hlt := (List.getElem?_eq_some_iff.1 h).1
  rw [List.drop_eq_getElem_cons hlt]; congr 1; simpa [hlt] using h

/-- a list by value -/
def IsRow (A : AV) (es : List (List AV)) : Prop := A = .nils ∧ es = [] ∨ A = .row es none
theorem IsRow.len {A : AV} {es : List (List AV)} (h : IsRow A es) : lenOf A = some es.length := by rcases h with ⟨rfl, rfl⟩ | rfl <;> rfl
theorem IsRow.elems {A : AV} {es : List (List AV)} (h : IsRow A es) (hp : Hp) : elems hp A = some es := by rcases h with ⟨rfl, rfl⟩ | rfl <;> rfl
theorem IsRow.src {A : AV} {es : List (List AV)} (h : IsRow A es) (hp : Hp) : srcElems hp A = some es := by rcases h with ⟨rfl, rfl⟩ | rfl <;> rfl
theorem IsRow.at {A : AV} {es : List (List AV)} (h : IsRow A es) {i : Nat} {e : List AV} (hi : es[i]? = some e) : iaVal A i = .ep e 0 := by
  rcases h with ⟨rfl, rfl⟩ | rfl
  · simp at hi
  · simp [hi]
theorem IsRow.rowV (es : List (List AV)) : IsRow (rowV es) es := by cases es <;> simp [IsRow]
theorem IsRow.row (es : List (List AV)) : IsRow (.row es none) es := .inr rfl
theorem IsRow.nils : IsRow .nils [] := .inl ⟨rfl, rfl⟩
theorem IsRow.chk {A : AV} {es : List (List AV)} (h : IsRow A es) (D : Nat → Prop) : chkS D A = True := by rcases h with ⟨rfl, rfl⟩ | rfl <;> rfl
theorem IsRow.bare {A : AV} {es : List (List AV)} (h : IsRow A es) : A.bare = match A with | .nils => .nils | _ => .row (bareLL es) none := by rcases h with ⟨rfl, rfl⟩ | rfl <;> simp
theorem IsRow.one {A : AV} {es : List (List AV)} (h : IsRow A es) : A.one = true := by rcases h with ⟨rfl, rfl⟩ | rfl <;> rfl
theorem IsRow.cells {A : AV} {es : List (List AV)} (h : IsRow A es) : A.cells = [A] := by rcases h with ⟨rfl, rfl⟩ | rfl <;> rfl
/-- what its bytes or numbers are stays without marks -/
theorem IsRow.same {A : AV} {es : List (List AV)} (h : IsRow A es) (hb : bareLL es = es) : A.bare = A := by rcases h with ⟨rfl, rfl⟩ | rfl <;> simp [hb]
/-- a part of it -/
theorem IsRow.sub {A : AV} {es : List (List AV)} (h : IsRow A es) (lo hi : Nat) (hh : hi ≤ es.length) : IsRow (subVal lo (fun _ => hi) A) ((es.take hi).drop lo) := by
  rcases h with ⟨rfl, rfl⟩ | rfl
  · simp [IsRow]
  · right; simp
theorem IsRow.slOk {A : AV} {es : List (List AV)} (h : IsRow A es) (hp : Hp) (s : Nat) (lo : Int) (hi : Nat → Int) : slOk hp s A lo hi = (0 ≤ lo ∧ lo ≤ hi es.length ∧ hi es.length ≤ es.length ∧ ∀ e, e ∈ es → e.length = s) := by
  rcases h with ⟨rfl, rfl⟩ | rfl
  · apply propext; simp
  · simp

/-- numbers -/
def ints (l : List Int) : List (List AV) := l.map fun n => [.int .i64 n]
@[simp] theorem ints_len (l : List Int) : (ints l).length = l.length := by simp [ints]
@[simp] theorem ints_nil : ints [] = [] := rfl
@[simp] theorem ints_app (a b : List Int) : ints (a ++ b) = ints a ++ ints b := by simp [ints]
@[simp] theorem ints_bare (l : List Int) : bareLL (ints l) = ints l := by simp [ints, bareLL_eq]
theorem ints_at {l : List Int} {i : Nat} {x : Int} (h : l[i]? = some x) : (ints l)[i]? = some [.int .i64 x] := by simp [ints, h]
theorem ints_one {l : List Int} {e : List AV} (h : e ∈ ints l) : e.length = 1 := by simp only [ints, List.mem_map] at h; obtain ⟨x, _, rfl⟩ := h; rfl
theorem ints_cut (l : List Int) (a b : Nat) : ((ints l).take b).drop a = ints ((l.take b).drop a) := by simp [ints, List.map_drop, List.map_take]
/-- pairs of numbers -/
def prs (l : List (Int × Int)) : List (List AV) := l.map fun p => [.int .i64 p.1, .int .i64 p.2]
@[simp] theorem prs_len (l : List (Int × Int)) : (prs l).length = l.length := by simp [prs]
@[simp] theorem prs_nil : prs [] = [] := rfl
@[simp] theorem prs_app (a b : List (Int × Int)) : prs (a ++ b) = prs a ++ prs b := by simp [prs]
@[simp] theorem prs_bare (l : List (Int × Int)) : bareLL (prs l) = prs l := by simp [prs, bareLL_eq, bareL]
theorem prs_at {l : List (Int × Int)} {i : Nat} {x : Int × Int} (h : l[i]? = some x) : (prs l)[i]? = some [.int .i64 x.1, .int .i64 x.2] := by simp [prs, h]
theorem prs_two {l : List (Int × Int)} {e : List AV} (h : e ∈ prs l) : e.length = 2 := by simp only [prs, List.mem_map] at h; obtain ⟨x, _, rfl⟩ := h; rfl
end Go.Proofs.YtgahmpfpnclefaaW.Abs
