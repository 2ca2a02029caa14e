/- The types of this seat, for the rules: each row a closed fact. Written by gentab.py. -/
import Derived.Test.YtjnihfmmmadlhaaVz
import Derived.Test.YtjnihfmmmadlhaaVe
import Derived.Test.YtjnihfmmmadlhaaProg
import Derived.KernelRfl
namespace Go.Proofs.Ytjnihfmmmadlhaa
open Go Go.RowKit
theorem ty2 : TyOk Try.prog 2 { zv := .int .i64 0, size := 1, agg := false, flds := [], fsz := [], arr := none, slc := none, tag := 0 } where
  z := fun _ => by kernel_rfl
  s := fun _ => by kernel_rfl
  a := fun _ => by kernel_rfl
  f := fun f off h => by simp at h
  g := fun len es h => by cases h
  c := fun e h => by cases h
  m := fun x y h => by cases h
  b := fun h => absurd h (by decide)
  r := fun h => absurd h (by decide)

theorem ty3 : TyOk Try.prog 3 { zv := .int .i64 0, size := 1, agg := false, flds := [], fsz := [], arr := none, slc := none, tag := 0 } where
  z := fun _ => by kernel_rfl
  s := fun _ => by kernel_rfl
  a := fun _ => by kernel_rfl
  f := fun f off h => by simp at h
  g := fun len es h => by cases h
  c := fun e h => by cases h
  m := fun x y h => by cases h
  b := fun h => absurd h (by decide)
  r := fun h => absurd h (by decide)

theorem ty4 : TyOk Try.prog 4 { zv := .bool false, size := 1, agg := false, flds := [], fsz := [], arr := none, slc := none, tag := 1 } where
  z := fun _ => by kernel_rfl
  s := fun _ => by kernel_rfl
  a := fun _ => by kernel_rfl
  f := fun f off h => by simp at h
  g := fun len es h => by cases h
  c := fun e h => by cases h
  m := fun x y h => by cases h
  b := fun _ => by kernel_rfl
  r := fun h => absurd h (by decide)

theorem ty5 : TyOk Try.prog 5 { zv := .int .u8 0, size := 1, agg := false, flds := [], fsz := [], arr := none, slc := none, tag := 0 } where
  z := fun _ => by kernel_rfl
  s := fun _ => by kernel_rfl
  a := fun _ => by kernel_rfl
  f := fun f off h => by simp at h
  g := fun len es h => by cases h
  c := fun e h => by cases h
  m := fun x y h => by cases h
  b := fun h => absurd h (by decide)
  r := fun h => absurd h (by decide)

theorem ty9 : TyOk Try.prog 9 { zv := .string ⟨#[]⟩, size := 1, agg := false, flds := [], fsz := [], arr := none, slc := none, tag := 2 } where
  z := fun _ => by kernel_rfl
  s := fun _ => by kernel_rfl
  a := fun _ => by kernel_rfl
  f := fun f off h => by simp at h
  g := fun len es h => by cases h
  c := fun e h => by cases h
  m := fun x y h => by cases h
  b := fun h => absurd h (by decide)
  r := fun _ => by kernel_rfl

theorem ty12 : TyOk Try.prog 12 { zv := .int .u64 0, size := 1, agg := false, flds := [], fsz := [], arr := none, slc := none, tag := 0 } where
  z := fun _ => by kernel_rfl
  s := fun _ => by kernel_rfl
  a := fun _ => by kernel_rfl
  f := fun f off h => by simp at h
  g := fun len es h => by cases h
  c := fun e h => by cases h
  m := fun x y h => by cases h
  b := fun h => absurd h (by decide)
  r := fun h => absurd h (by decide)

theorem ty20 : TyOk Try.prog 20 { zv := .nilIface, size := 1, agg := false, flds := [], fsz := [], arr := none, slc := none, tag := 0 } where
  z := fun _ => by kernel_rfl
  s := fun _ => by kernel_rfl
  a := fun _ => by kernel_rfl
  f := fun f off h => by simp at h
  g := fun len es h => by cases h
  c := fun e h => by cases h
  m := fun x y h => by cases h
  b := fun h => absurd h (by decide)
  r := fun h => absurd h (by decide)

theorem ty21 : TyOk Try.prog 21 { zv := .int .i32 0, size := 1, agg := false, flds := [], fsz := [], arr := none, slc := none, tag := 0 } where
  z := fun _ => by kernel_rfl
  s := fun _ => by kernel_rfl
  a := fun _ => by kernel_rfl
  f := fun f off h => by simp at h
  g := fun len es h => by cases h
  c := fun e h => by cases h
  m := fun x y h => by cases h
  b := fun h => absurd h (by decide)
  r := fun h => absurd h (by decide)

theorem ty22 : TyOk Try.prog 22 { zv := .agg #[.int .i64 0, .int .i64 0, .int .i64 0], size := 3, agg := true, flds := [], fsz := [], arr := some (3, 1), slc := none, tag := 0 } where
  z := fun _ => by kernel_rfl
  s := fun _ => by kernel_rfl
  a := fun _ => by kernel_rfl
  f := fun f off h => by simp at h
  g := fun len es h => by cases h; exact ⟨3, by kernel_rfl, fun _ => by kernel_rfl, fun _ => by kernel_rfl⟩
  c := fun e h => by cases h
  m := fun x y h => by cases h
  b := fun h => absurd h (by decide)
  r := fun h => absurd h (by decide)

theorem ty23 : TyOk Try.prog 23 { zv := .agg #[.int .i64 0, .int .i64 0, .int .i64 0, .int .i64 0, .int .i64 0, .int .i64 0, .int .i64 0], size := 7, agg := true, flds := [0, 1, 2, 3, 4], fsz := [1, 1, 1, 1, 3], arr := none, slc := none, tag := 0 } where
  z := fun _ => by kernel_rfl
  s := fun _ => by kernel_rfl
  a := fun _ => by kernel_rfl
  f := fun f off h => match f, off, h with
      | 0, _, rfl => fun _ _ _ => by kernel_rfl
      | 1, _, rfl => fun _ _ _ => by kernel_rfl
      | 2, _, rfl => fun _ _ _ => by kernel_rfl
      | 3, _, rfl => fun _ _ _ => by kernel_rfl
      | 4, _, rfl => fun _ _ _ => by kernel_rfl
      | _ + 5, _, h => by simp at h
  g := fun len es h => by cases h
  c := fun e h => by cases h
  m := fun x y h => ⟨Try.prog.fieldsOf 23, by kernel_rfl, fun _ => by kernel_rfl⟩
  b := fun h => absurd h (by decide)
  r := fun h => absurd h (by decide)

theorem ty24 : TyOk Try.prog 24 { zv := .agg #[.int .i64 0, .int .i64 0, .int .i64 0, .int .i64 0, .int .i64 0, .int .i64 0, .int .i64 0], size := 7, agg := true, flds := [0, 1, 2, 3, 4], fsz := [1, 1, 1, 1, 3], arr := none, slc := none, tag := 0 } where
  z := fun _ => by kernel_rfl
  s := fun _ => by kernel_rfl
  a := fun _ => by kernel_rfl
  f := fun f off h => match f, off, h with
      | 0, _, rfl => fun _ _ _ => by kernel_rfl
      | 1, _, rfl => fun _ _ _ => by kernel_rfl
      | 2, _, rfl => fun _ _ _ => by kernel_rfl
      | 3, _, rfl => fun _ _ _ => by kernel_rfl
      | 4, _, rfl => fun _ _ _ => by kernel_rfl
      | _ + 5, _, h => by simp at h
  g := fun len es h => by cases h
  c := fun e h => by cases h
  m := fun x y h => ⟨Try.prog.fieldsOf 24, by kernel_rfl, fun _ => by kernel_rfl⟩
  b := fun h => absurd h (by decide)
  r := fun h => absurd h (by decide)

theorem ty29 : TyOk Try.prog 29 { zv := .agg #[.int .i64 0, .int .i64 0, .int .i64 0, .int .i64 0, .int .i64 0], size := 5, agg := true, flds := [0, 1, 2], fsz := [1, 1, 3], arr := none, slc := none, tag := 0 } where
  z := fun _ => by kernel_rfl
  s := fun _ => by kernel_rfl
  a := fun _ => by kernel_rfl
  f := fun f off h => match f, off, h with
      | 0, _, rfl => fun _ _ _ => by kernel_rfl
      | 1, _, rfl => fun _ _ _ => by kernel_rfl
      | 2, _, rfl => fun _ _ _ => by kernel_rfl
      | _ + 3, _, h => by simp at h
  g := fun len es h => by cases h
  c := fun e h => by cases h
  m := fun x y h => ⟨Try.prog.fieldsOf 29, by kernel_rfl, fun _ => by kernel_rfl⟩
  b := fun h => absurd h (by decide)
  r := fun h => absurd h (by decide)

theorem ty30 : TyOk Try.prog 30 { zv := .agg #[.int .i64 0, .int .i64 0, .int .i64 0, .int .i64 0, .int .i64 0], size := 5, agg := true, flds := [0, 1, 2], fsz := [1, 1, 3], arr := none, slc := none, tag := 0 } where
  z := fun _ => by kernel_rfl
  s := fun _ => by kernel_rfl
  a := fun _ => by kernel_rfl
  f := fun f off h => match f, off, h with
      | 0, _, rfl => fun _ _ _ => by kernel_rfl
      | 1, _, rfl => fun _ _ _ => by kernel_rfl
      | 2, _, rfl => fun _ _ _ => by kernel_rfl
      | _ + 3, _, h => by simp at h
  g := fun len es h => by cases h
  c := fun e h => by cases h
  m := fun x y h => ⟨Try.prog.fieldsOf 30, by kernel_rfl, fun _ => by kernel_rfl⟩
  b := fun h => absurd h (by decide)
  r := fun h => absurd h (by decide)

theorem ty31 : TyOk Try.prog 31 { zv := .int .i64 0, size := 1, agg := false, flds := [], fsz := [], arr := none, slc := none, tag := 0 } where
  z := fun _ => by kernel_rfl
  s := fun _ => by kernel_rfl
  a := fun _ => by kernel_rfl
  f := fun f off h => by simp at h
  g := fun len es h => by cases h
  c := fun e h => by cases h
  m := fun x y h => by cases h
  b := fun h => absurd h (by decide)
  r := fun h => absurd h (by decide)

theorem ty50 : TyOk Try.prog 50 { zv := .slice none 0 0, size := 1, agg := false, flds := [], fsz := [], arr := none, slc := some 3, tag := 0 } where
  z := fun _ => by kernel_rfl
  s := fun _ => by kernel_rfl
  a := fun _ => by kernel_rfl
  f := fun f off h => by simp at h
  g := fun len es h => by cases h
  c := fun e h => by cases h; kernel_rfl
  m := fun x y h => by cases h
  b := fun h => absurd h (by decide)
  r := fun h => absurd h (by decide)

theorem ty56 : TyOk Try.prog 56 { zv := .slice none 0 0, size := 1, agg := false, flds := [], fsz := [], arr := none, slc := some 50, tag := 0 } where
  z := fun _ => by kernel_rfl
  s := fun _ => by kernel_rfl
  a := fun _ => by kernel_rfl
  f := fun f off h => by simp at h
  g := fun len es h => by cases h
  c := fun e h => by cases h; kernel_rfl
  m := fun x y h => by cases h
  b := fun h => absurd h (by decide)
  r := fun h => absurd h (by decide)

theorem ty67 : TyOk Try.prog 67 { zv := .int .u32 0, size := 1, agg := false, flds := [], fsz := [], arr := none, slc := none, tag := 0 } where
  z := fun _ => by kernel_rfl
  s := fun _ => by kernel_rfl
  a := fun _ => by kernel_rfl
  f := fun f off h => by simp at h
  g := fun len es h => by cases h
  c := fun e h => by cases h
  m := fun x y h => by cases h
  b := fun h => absurd h (by decide)
  r := fun h => absurd h (by decide)

theorem ty71 : TyOk Try.prog 71 { zv := .pointer none, size := 1, agg := false, flds := [], fsz := [], arr := none, slc := none, tag := 0 } where
  z := fun _ => by kernel_rfl
  s := fun _ => by kernel_rfl
  a := fun _ => by kernel_rfl
  f := fun f off h => by simp at h
  g := fun len es h => by cases h
  c := fun e h => by cases h
  m := fun x y h => by cases h
  b := fun h => absurd h (by decide)
  r := fun h => absurd h (by decide)

def ent : Nat → Option Ty
  | 2 => some { zv := .int .i64 0, size := 1, agg := false, flds := [], fsz := [], arr := none, slc := none, tag := 0 }
  | 3 => some { zv := .int .i64 0, size := 1, agg := false, flds := [], fsz := [], arr := none, slc := none, tag := 0 }
  | 4 => some { zv := .bool false, size := 1, agg := false, flds := [], fsz := [], arr := none, slc := none, tag := 1 }
  | 5 => some { zv := .int .u8 0, size := 1, agg := false, flds := [], fsz := [], arr := none, slc := none, tag := 0 }
  | 9 => some { zv := .string ⟨#[]⟩, size := 1, agg := false, flds := [], fsz := [], arr := none, slc := none, tag := 2 }
  | 12 => some { zv := .int .u64 0, size := 1, agg := false, flds := [], fsz := [], arr := none, slc := none, tag := 0 }
  | 20 => some { zv := .nilIface, size := 1, agg := false, flds := [], fsz := [], arr := none, slc := none, tag := 0 }
  | 21 => some { zv := .int .i32 0, size := 1, agg := false, flds := [], fsz := [], arr := none, slc := none, tag := 0 }
  | 22 => some { zv := .agg #[.int .i64 0, .int .i64 0, .int .i64 0], size := 3, agg := true, flds := [], fsz := [], arr := some (3, 1), slc := none, tag := 0 }
  | 23 => some { zv := .agg #[.int .i64 0, .int .i64 0, .int .i64 0, .int .i64 0, .int .i64 0, .int .i64 0, .int .i64 0], size := 7, agg := true, flds := [0, 1, 2, 3, 4], fsz := [1, 1, 1, 1, 3], arr := none, slc := none, tag := 0 }
  | 24 => some { zv := .agg #[.int .i64 0, .int .i64 0, .int .i64 0, .int .i64 0, .int .i64 0, .int .i64 0, .int .i64 0], size := 7, agg := true, flds := [0, 1, 2, 3, 4], fsz := [1, 1, 1, 1, 3], arr := none, slc := none, tag := 0 }
  | 29 => some { zv := .agg #[.int .i64 0, .int .i64 0, .int .i64 0, .int .i64 0, .int .i64 0], size := 5, agg := true, flds := [0, 1, 2], fsz := [1, 1, 3], arr := none, slc := none, tag := 0 }
  | 30 => some { zv := .agg #[.int .i64 0, .int .i64 0, .int .i64 0, .int .i64 0, .int .i64 0], size := 5, agg := true, flds := [0, 1, 2], fsz := [1, 1, 3], arr := none, slc := none, tag := 0 }
  | 31 => some { zv := .int .i64 0, size := 1, agg := false, flds := [], fsz := [], arr := none, slc := none, tag := 0 }
  | 50 => some { zv := .slice none 0 0, size := 1, agg := false, flds := [], fsz := [], arr := none, slc := some 3, tag := 0 }
  | 56 => some { zv := .slice none 0 0, size := 1, agg := false, flds := [], fsz := [], arr := none, slc := some 50, tag := 0 }
  | 67 => some { zv := .int .u32 0, size := 1, agg := false, flds := [], fsz := [], arr := none, slc := none, tag := 0 }
  | 71 => some { zv := .pointer none, size := 1, agg := false, flds := [], fsz := [], arr := none, slc := none, tag := 0 }
  | _ => none
theorem ent_ok : ∀ T t, ent T = some t → TyOk Try.prog T t := by
  intro T t h
  unfold ent at h
  split at h
  · cases h; exact ty2
  · cases h; exact ty3
  · cases h; exact ty4
  · cases h; exact ty5
  · cases h; exact ty9
  · cases h; exact ty12
  · cases h; exact ty20
  · cases h; exact ty21
  · cases h; exact ty22
  · cases h; exact ty23
  · cases h; exact ty24
  · cases h; exact ty29
  · cases h; exact ty30
  · cases h; exact ty31
  · cases h; exact ty50
  · cases h; exact ty56
  · cases h; exact ty67
  · cases h; exact ty71
  · cases h
theorem eq22 : flatN Try.prog 5 22 = some 3 := by kernel_rfl
theorem eq23 : flatN Try.prog 5 23 = some 7 := by kernel_rfl
theorem eq24 : flatN Try.prog 5 24 = some 7 := by kernel_rfl
theorem eq29 : flatN Try.prog 5 29 = some 5 := by kernel_rfl
theorem eq30 : flatN Try.prog 5 30 = some 5 := by kernel_rfl
def eqs : Nat → Bool
  | 22 => true
  | 23 => true
  | 24 => true
  | 29 => true
  | 30 => true
  | _ => false
theorem eqs_ok : ∀ T t xs ys r, eqs T = true → ent T = some t → xs.length = t.size → cmpInts xs ys = some r → EqAt Try.prog T (.agg xs.toArray) (.agg ys.toArray) r := by
  intro T t xs ys r h ht hl hc
  unfold eqs at h
  split at h
  · cases ht; exact eqAt_flat eq22 (by decide) (by kernel_rfl) (fun _ => by kernel_rfl) hl hc
  · cases ht; exact eqAt_flat eq23 (by decide) (by kernel_rfl) (fun _ => by kernel_rfl) hl hc
  · cases ht; exact eqAt_flat eq24 (by decide) (by kernel_rfl) (fun _ => by kernel_rfl) hl hc
  · cases ht; exact eqAt_flat eq29 (by decide) (by kernel_rfl) (fun _ => by kernel_rfl) hl hc
  · cases ht; exact eqAt_flat eq30 (by decide) (by kernel_rfl) (fun _ => by kernel_rfl) hl hc
  · cases h
noncomputable def C : Ctx := { P := Try.prog, ent := ent, ok := ent_ok, mixed := by kernel_rfl, eqs := eqs, eqok := eqs_ok }
end Go.Proofs.Ytjnihfmmmadlhaa
