/- Trees of a number, a text and parts. -/
import Derived.Test.YtgahmpfpnclefaaA19
namespace Go.Proofs.YtgahmpfpnclefaaW.Abs
open Go.RowKit
set_option linter.unusedVariables false

inductive T where
  | mk (k : Int) (s : List UInt8) (nil : Bool) (kids : List T)

mutual
def T.enc : T → List AV
  | .mk k s nil kids => [.int .i64 k, .str s, match T.encL kids with | [] => if nil = true then .nils else .row [] none | l => .row l none]
def T.encL : List T → List (List AV)
  | [] => []
  | t :: r => t.enc :: T.encL r
end
theorem T.encL_eq : ∀ l : List T, T.encL l = l.map T.enc
  | [] => by simp [T.encL]
  | t :: r => by simp [T.encL, T.encL_eq r]
/-- the parts, as a value -/
def kidsV (nil : Bool) (kids : List T) : AV := match kids.map T.enc with | [] => if nil = true then .nils else .row [] none | l => .row l none
theorem kidsV_row {nil : Bool} {kids : List T} (h : nil = false ∨ kids ≠ []) : kidsV nil kids = .row (kids.map T.enc) none := by
  cases kids with
  | nil => rcases h with rfl | h
           · rfl
           · exact absurd rfl h
  | cons t r => rfl
theorem kidsV_cases (nil : Bool) (kids : List T) : kidsV nil kids = .nils ∧ nil = true ∧ kids = [] ∨ kidsV nil kids = .row (kids.map T.enc) none := by
  cases kids with
  | nil => cases nil
           · exact .inr rfl
           · exact .inl ⟨rfl, rfl, rfl⟩
  | cons t r => exact .inr rfl
theorem T.enc_mk (k : Int) (s : List UInt8) (nil : Bool) (kids : List T) : T.enc (.mk k s nil kids) = [.int .i64 k, .str s, kidsV nil kids] := by
  rw [T.enc, T.encL_eq]; rfl
@[simp] theorem kidsV_one (nil : Bool) (kids : List T) : (kidsV nil kids).one = true := by rcases kidsV_cases nil kids with ⟨h, _⟩ | h <;> rw [h] <;> rfl
@[simp] theorem kidsV_cells (nil : Bool) (kids : List T) : (kidsV nil kids).cells = [kidsV nil kids] := cells_one (kidsV_one nil kids)
@[simp] theorem kidsV_len (nil : Bool) (kids : List T) : lenOf (kidsV nil kids) = some kids.length := by rcases kidsV_cases nil kids with ⟨h, _, e⟩ | h <;> rw [h] <;> simp_all
@[simp] theorem kidsV_elems (h : Hp) (nil : Bool) (kids : List T) : elems h (kidsV nil kids) = some (kids.map T.enc) := by rcases kidsV_cases nil kids with ⟨h, _, e⟩ | h <;> rw [h] <;> simp_all
@[simp] theorem kidsV_src (h : Hp) (nil : Bool) (kids : List T) : srcElems h (kidsV nil kids) = some (kids.map T.enc) := by rcases kidsV_cases nil kids with ⟨h, _, e⟩ | h <;> rw [h] <;> simp_all
@[simp] theorem kidsV_false (kids : List T) : kidsV false kids = .row (kids.map T.enc) none := kidsV_row (.inl rfl)
@[simp] theorem kidsV_true : kidsV true [] = .nils := rfl
@[simp] theorem T.enc_len (t : T) : t.enc.length = 3 := by cases t; simp [T.enc_mk]
@[simp] theorem T.enc_ones (t : T) : t.enc.all AV.one = true := by cases t with | mk k s nil kids => simp [T.enc_mk]
@[simp] theorem T.enc_one (t : T) {a : AV} (h : a ∈ t.enc) : a.one = true := List.all_eq_true.1 t.enc_ones a h

theorem T.bare_enc : ∀ t : T, bareL t.enc = t.enc
  | .mk k s nil kids => by
    have ih : ∀ x ∈ kids, bareL x.enc = x.enc := fun x hx => T.bare_enc x
    rcases kidsV_cases nil kids with ⟨h, _, e⟩ | h
    · simp [bareL, T.enc_mk, h]
    · simp only [T.enc_mk, h, bareL, bare_int, bare_str, bare_row, bareLL_map]
      rw [List.map_congr_left ih]
termination_by t => SizeOf.sizeOf t
decreasing_by
  have := List.sizeOf_lt_of_mem hx
  simp; omega
attribute [simp] T.bare_enc
@[simp] theorem kidsV_bare (nil : Bool) (kids : List T) : (kidsV nil kids).bare = kidsV nil kids := by
  rcases kidsV_cases nil kids with ⟨h, _, e⟩ | h <;> simp [h]
@[simp] theorem T.enc_take (t : T) : t.enc.take 3 = t.enc := List.take_of_length_le (by simp)
theorem kidsV_at {nil : Bool} {kids : List T} {i : Nat} {t : T} (h : kids[i]? = some t) : iaVal (kidsV nil kids) i = .ep t.enc 0 := by
  rw [kidsV_row (.inr (fun e => by rw [e] at h; simp at h))]
  simp [h]

@[simp] theorem kidsV_acc (l : List T) : rowV (l.map T.enc) = kidsV true l := by cases l <;> rfl
/-- a plan as large as one may be -/
def T.ok : T → Prop
  | .mk _ s _ kids => s.length ≤ 140737488355328 ∧ kids.length * 48 ≤ 140737488355328 ∧ ∀ x, x ∈ kids → x.ok
termination_by t => SizeOf.sizeOf t
decreasing_by
  have := List.sizeOf_lt_of_mem ‹_›
  simp; omega
theorem T.ok_mk {k : Int} {s : List UInt8} {nil : Bool} {kids : List T} : T.ok (.mk k s nil kids) ↔ s.length ≤ 140737488355328 ∧ kids.length * 48 ≤ 140737488355328 ∧ ∀ x, x ∈ kids → x.ok := by rw [T.ok]

/-- a piece -/
structure Pc where
  k : Int
  s : List UInt8
def Pc.enc (p : Pc) : List AV := [.int .i64 p.k, .str p.s]
@[simp] theorem Pc.enc_mk (k : Int) (s : List UInt8) : Pc.enc ⟨k, s⟩ = [.int .i64 k, .str s] := rfl
@[simp] theorem Pc.enc_len (p : Pc) : (Pc.enc p).length = 2 := rfl
@[simp] theorem Pc.enc_ones (p : Pc) : (Pc.enc p).all AV.one = true := rfl
@[simp] theorem Pc.bare_enc (p : Pc) : bareL (Pc.enc p) = Pc.enc p := by simp [Pc.enc, bareL]
@[simp] theorem Pc.enc_take (t : Pc) : t.enc.take 2 = t.enc := rfl
end Go.Proofs.YtgahmpfpnclefaaW.Abs
