/- The types of this seat, for the rules: each row a closed fact. Written by gentab2.py. -/
import Derived.Test.YtkdfdbjcfhmkaaaWd
import Derived.Test.YtkdfdbjcfhmkaaaWf
import Derived.Test.YtkdfdbjcfhmkaaaProg
import Derived.KernelRfl
namespace Go.Proofs.Ytkdfdbjcfhmkaaa
open Go Go.RowKit
theorem ty1 : TyOk Try.prog 1 { zv := .nilFunc, size := 1, agg := false, flds := [], fsz := [], arr := none, slc := none, tag := 3, bytes := 8, int := none, mp := none } where
  z := fun _ => by kernel_rfl
  s := fun _ => by kernel_rfl
  a := fun _ => by kernel_rfl
  f := fun f off h => by simp at h
  g := fun len es h => by cases h
  c := fun e s h => by cases h
  m := fun x y h => by cases h
  b := fun h => absurd h (by decide)
  r := fun h => absurd h (by decide)
  i := by kernel_rfl
  k := fun k h => by cases h
  q := fun _ => isFunc_of (by kernel_rfl)
  p := fun k e h => by cases h

theorem ty2 : TyOk Try.prog 2 { zv := .int .i64 0, size := 1, agg := false, flds := [], fsz := [], arr := none, slc := none, tag := 0, bytes := 8, int := some .i64, mp := none } where
  z := fun _ => by kernel_rfl
  s := fun _ => by kernel_rfl
  a := fun _ => by kernel_rfl
  f := fun f off h => by simp at h
  g := fun len es h => by cases h
  c := fun e s h => by cases h
  m := fun x y h => by cases h
  b := fun h => absurd h (by decide)
  r := fun h => absurd h (by decide)
  i := by kernel_rfl
  k := fun k h => by cases h; kernel_rfl
  q := fun h => absurd h (by decide)
  p := fun k e h => by cases h

theorem ty3 : TyOk Try.prog 3 { zv := .int .i64 0, size := 1, agg := false, flds := [], fsz := [], arr := none, slc := none, tag := 0, bytes := 8, int := some .i64, mp := none } where
  z := fun _ => by kernel_rfl
  s := fun _ => by kernel_rfl
  a := fun _ => by kernel_rfl
  f := fun f off h => by simp at h
  g := fun len es h => by cases h
  c := fun e s h => by cases h
  m := fun x y h => by cases h
  b := fun h => absurd h (by decide)
  r := fun h => absurd h (by decide)
  i := by kernel_rfl
  k := fun k h => by cases h; kernel_rfl
  q := fun h => absurd h (by decide)
  p := fun k e h => by cases h

theorem ty4 : TyOk Try.prog 4 { zv := .bool false, size := 1, agg := false, flds := [], fsz := [], arr := none, slc := none, tag := 1, bytes := 1, int := none, mp := none } where
  z := fun _ => by kernel_rfl
  s := fun _ => by kernel_rfl
  a := fun _ => by kernel_rfl
  f := fun f off h => by simp at h
  g := fun len es h => by cases h
  c := fun e s h => by cases h
  m := fun x y h => by cases h
  b := fun _ => by kernel_rfl
  r := fun h => absurd h (by decide)
  i := by kernel_rfl
  k := fun k h => by cases h
  q := fun h => absurd h (by decide)
  p := fun k e h => by cases h

theorem ty5 : TyOk Try.prog 5 { zv := .int .u8 0, size := 1, agg := false, flds := [], fsz := [], arr := none, slc := none, tag := 0, bytes := 1, int := some .u8, mp := none } where
  z := fun _ => by kernel_rfl
  s := fun _ => by kernel_rfl
  a := fun _ => by kernel_rfl
  f := fun f off h => by simp at h
  g := fun len es h => by cases h
  c := fun e s h => by cases h
  m := fun x y h => by cases h
  b := fun h => absurd h (by decide)
  r := fun h => absurd h (by decide)
  i := by kernel_rfl
  k := fun k h => by cases h; kernel_rfl
  q := fun h => absurd h (by decide)
  p := fun k e h => by cases h

theorem ty9 : TyOk Try.prog 9 { zv := .string ⟨#[]⟩, size := 1, agg := false, flds := [], fsz := [], arr := none, slc := none, tag := 2, bytes := 16, int := none, mp := none } where
  z := fun _ => by kernel_rfl
  s := fun _ => by kernel_rfl
  a := fun _ => by kernel_rfl
  f := fun f off h => by simp at h
  g := fun len es h => by cases h
  c := fun e s h => by cases h
  m := fun x y h => by cases h
  b := fun h => absurd h (by decide)
  r := fun _ => by kernel_rfl
  i := by kernel_rfl
  k := fun k h => by cases h
  q := fun h => absurd h (by decide)
  p := fun k e h => by cases h

theorem ty12 : TyOk Try.prog 12 { zv := .int .u64 0, size := 1, agg := false, flds := [], fsz := [], arr := none, slc := none, tag := 0, bytes := 8, int := some .u64, mp := none } where
  z := fun _ => by kernel_rfl
  s := fun _ => by kernel_rfl
  a := fun _ => by kernel_rfl
  f := fun f off h => by simp at h
  g := fun len es h => by cases h
  c := fun e s h => by cases h
  m := fun x y h => by cases h
  b := fun h => absurd h (by decide)
  r := fun h => absurd h (by decide)
  i := by kernel_rfl
  k := fun k h => by cases h; kernel_rfl
  q := fun h => absurd h (by decide)
  p := fun k e h => by cases h

theorem ty20 : TyOk Try.prog 20 { zv := .nilIface, size := 1, agg := false, flds := [], fsz := [], arr := none, slc := none, tag := 0, bytes := 16, int := none, mp := none } where
  z := fun _ => by kernel_rfl
  s := fun _ => by kernel_rfl
  a := fun _ => by kernel_rfl
  f := fun f off h => by simp at h
  g := fun len es h => by cases h
  c := fun e s h => by cases h
  m := fun x y h => by cases h
  b := fun h => absurd h (by decide)
  r := fun h => absurd h (by decide)
  i := by kernel_rfl
  k := fun k h => by cases h
  q := fun h => absurd h (by decide)
  p := fun k e h => by cases h

theorem ty21 : TyOk Try.prog 21 { zv := .int .i32 0, size := 1, agg := false, flds := [], fsz := [], arr := none, slc := none, tag := 0, bytes := 4, int := some .i32, mp := none } where
  z := fun _ => by kernel_rfl
  s := fun _ => by kernel_rfl
  a := fun _ => by kernel_rfl
  f := fun f off h => by simp at h
  g := fun len es h => by cases h
  c := fun e s h => by cases h
  m := fun x y h => by cases h
  b := fun h => absurd h (by decide)
  r := fun h => absurd h (by decide)
  i := by kernel_rfl
  k := fun k h => by cases h; kernel_rfl
  q := fun h => absurd h (by decide)
  p := fun k e h => by cases h

theorem ty22 : TyOk Try.prog 22 { zv := .slice none 0 0, size := 1, agg := false, flds := [], fsz := [], arr := none, slc := some (5, 1), tag := 0, bytes := 24, int := none, mp := none } where
  z := fun _ => by kernel_rfl
  s := fun _ => by kernel_rfl
  a := fun _ => by kernel_rfl
  f := fun f off h => by simp at h
  g := fun len es h => by cases h
  c := fun e s h => by cases h; exact ⟨by kernel_rfl, fun _ => by kernel_rfl⟩
  m := fun x y h => by cases h
  b := fun h => absurd h (by decide)
  r := fun h => absurd h (by decide)
  i := by kernel_rfl
  k := fun k h => by cases h
  q := fun h => absurd h (by decide)
  p := fun k e h => by cases h

theorem ty23 : TyOk Try.prog 23 { zv := .nilFunc, size := 1, agg := false, flds := [], fsz := [], arr := none, slc := none, tag := 3, bytes := 8, int := none, mp := none } where
  z := fun _ => by kernel_rfl
  s := fun _ => by kernel_rfl
  a := fun _ => by kernel_rfl
  f := fun f off h => by simp at h
  g := fun len es h => by cases h
  c := fun e s h => by cases h
  m := fun x y h => by cases h
  b := fun h => absurd h (by decide)
  r := fun h => absurd h (by decide)
  i := by kernel_rfl
  k := fun k h => by cases h
  q := fun _ => isFunc_of (by kernel_rfl)
  p := fun k e h => by cases h

theorem ty24 : TyOk Try.prog 24 { zv := .int .u32 0, size := 1, agg := false, flds := [], fsz := [], arr := none, slc := none, tag := 0, bytes := 4, int := some .u32, mp := none } where
  z := fun _ => by kernel_rfl
  s := fun _ => by kernel_rfl
  a := fun _ => by kernel_rfl
  f := fun f off h => by simp at h
  g := fun len es h => by cases h
  c := fun e s h => by cases h
  m := fun x y h => by cases h
  b := fun h => absurd h (by decide)
  r := fun h => absurd h (by decide)
  i := by kernel_rfl
  k := fun k h => by cases h; kernel_rfl
  q := fun h => absurd h (by decide)
  p := fun k e h => by cases h

theorem ty25 : TyOk Try.prog 25 { zv := .nilFunc, size := 1, agg := false, flds := [], fsz := [], arr := none, slc := none, tag := 3, bytes := 8, int := none, mp := none } where
  z := fun _ => by kernel_rfl
  s := fun _ => by kernel_rfl
  a := fun _ => by kernel_rfl
  f := fun f off h => by simp at h
  g := fun len es h => by cases h
  c := fun e s h => by cases h
  m := fun x y h => by cases h
  b := fun h => absurd h (by decide)
  r := fun h => absurd h (by decide)
  i := by kernel_rfl
  k := fun k h => by cases h
  q := fun _ => isFunc_of (by kernel_rfl)
  p := fun k e h => by cases h

theorem ty26 : TyOk Try.prog 26 { zv := .nilFunc, size := 1, agg := false, flds := [], fsz := [], arr := none, slc := none, tag := 3, bytes := 8, int := none, mp := none } where
  z := fun _ => by kernel_rfl
  s := fun _ => by kernel_rfl
  a := fun _ => by kernel_rfl
  f := fun f off h => by simp at h
  g := fun len es h => by cases h
  c := fun e s h => by cases h
  m := fun x y h => by cases h
  b := fun h => absurd h (by decide)
  r := fun h => absurd h (by decide)
  i := by kernel_rfl
  k := fun k h => by cases h
  q := fun _ => isFunc_of (by kernel_rfl)
  p := fun k e h => by cases h

theorem ty27 : TyOk Try.prog 27 { zv := .agg #[.int .i64 0, .int .i64 0], size := 2, agg := true, flds := [0, 1], fsz := [1, 1], arr := none, slc := none, tag := 0, bytes := 16, int := none, mp := none } where
  z := fun _ => by kernel_rfl
  s := fun _ => by kernel_rfl
  a := fun _ => by kernel_rfl
  f := fun f off h => match f, off, h with
      | 0, _, rfl => fun _ _ _ => by kernel_rfl
      | 1, _, rfl => fun _ _ _ => by kernel_rfl
      | _ + 2, _, h => by simp at h
  g := fun len es h => by cases h
  c := fun e s h => by cases h
  m := fun x y h => ⟨Try.prog.fieldsOf 27, by kernel_rfl, fun _ => by kernel_rfl⟩
  b := fun h => absurd h (by decide)
  r := fun h => absurd h (by decide)
  i := by kernel_rfl
  k := fun k h => by cases h
  q := fun h => absurd h (by decide)
  p := fun k e h => by cases h

theorem ty28 : TyOk Try.prog 28 { zv := .agg #[.int .i64 0, .int .i64 0], size := 2, agg := true, flds := [0, 1], fsz := [1, 1], arr := none, slc := none, tag := 0, bytes := 16, int := none, mp := none } where
  z := fun _ => by kernel_rfl
  s := fun _ => by kernel_rfl
  a := fun _ => by kernel_rfl
  f := fun f off h => match f, off, h with
      | 0, _, rfl => fun _ _ _ => by kernel_rfl
      | 1, _, rfl => fun _ _ _ => by kernel_rfl
      | _ + 2, _, h => by simp at h
  g := fun len es h => by cases h
  c := fun e s h => by cases h
  m := fun x y h => ⟨Try.prog.fieldsOf 28, by kernel_rfl, fun _ => by kernel_rfl⟩
  b := fun h => absurd h (by decide)
  r := fun h => absurd h (by decide)
  i := by kernel_rfl
  k := fun k h => by cases h
  q := fun h => absurd h (by decide)
  p := fun k e h => by cases h

theorem ty29 : TyOk Try.prog 29 { zv := .agg #[.int .i64 0, .int .i64 0, .int .i64 0], size := 3, agg := true, flds := [], fsz := [], arr := some (3, 1), slc := none, tag := 0, bytes := 24, int := none, mp := none } where
  z := fun _ => by kernel_rfl
  s := fun _ => by kernel_rfl
  a := fun _ => by kernel_rfl
  f := fun f off h => by simp at h
  g := fun len es h => by cases h; exact ⟨3, by kernel_rfl, fun _ => by kernel_rfl, fun _ _ => by kernel_rfl⟩
  c := fun e s h => by cases h
  m := fun x y h => by cases h
  b := fun h => absurd h (by decide)
  r := fun h => absurd h (by decide)
  i := by kernel_rfl
  k := fun k h => by cases h
  q := fun h => absurd h (by decide)
  p := fun k e h => by cases h

theorem ty30 : TyOk Try.prog 30 { zv := .agg #[.int .i64 0, .int .i64 0, .int .i64 0, .int .i64 0, .int .i64 0], size := 5, agg := true, flds := [0, 1, 2], fsz := [1, 1, 3], arr := none, slc := none, tag := 0, bytes := 40, int := none, mp := none } where
  z := fun _ => by kernel_rfl
  s := fun _ => by kernel_rfl
  a := fun _ => by kernel_rfl
  f := fun f off h => match f, off, h with
      | 0, _, rfl => fun _ _ _ => by kernel_rfl
      | 1, _, rfl => fun _ _ _ => by kernel_rfl
      | 2, _, rfl => fun _ _ _ => by kernel_rfl
      | _ + 3, _, h => by simp at h
  g := fun len es h => by cases h
  c := fun e s h => by cases h
  m := fun x y h => ⟨Try.prog.fieldsOf 30, by kernel_rfl, fun _ => by kernel_rfl⟩
  b := fun h => absurd h (by decide)
  r := fun h => absurd h (by decide)
  i := by kernel_rfl
  k := fun k h => by cases h
  q := fun h => absurd h (by decide)
  p := fun k e h => by cases h

theorem ty31 : TyOk Try.prog 31 { zv := .agg #[.int .i64 0, .int .i64 0, .int .i64 0, .int .i64 0, .int .i64 0], size := 5, agg := true, flds := [0, 1, 2], fsz := [1, 1, 3], arr := none, slc := none, tag := 0, bytes := 40, int := none, mp := none } where
  z := fun _ => by kernel_rfl
  s := fun _ => by kernel_rfl
  a := fun _ => by kernel_rfl
  f := fun f off h => match f, off, h with
      | 0, _, rfl => fun _ _ _ => by kernel_rfl
      | 1, _, rfl => fun _ _ _ => by kernel_rfl
      | 2, _, rfl => fun _ _ _ => by kernel_rfl
      | _ + 3, _, h => by simp at h
  g := fun len es h => by cases h
  c := fun e s h => by cases h
  m := fun x y h => ⟨Try.prog.fieldsOf 31, by kernel_rfl, fun _ => by kernel_rfl⟩
  b := fun h => absurd h (by decide)
  r := fun h => absurd h (by decide)
  i := by kernel_rfl
  k := fun k h => by cases h
  q := fun h => absurd h (by decide)
  p := fun k e h => by cases h

theorem ty32 : TyOk Try.prog 32 { zv := .slice none 0 0, size := 1, agg := false, flds := [], fsz := [], arr := none, slc := some (55, 2), tag := 0, bytes := 24, int := none, mp := none } where
  z := fun _ => by kernel_rfl
  s := fun _ => by kernel_rfl
  a := fun _ => by kernel_rfl
  f := fun f off h => by simp at h
  g := fun len es h => by cases h
  c := fun e s h => by cases h; exact ⟨by kernel_rfl, fun _ => by kernel_rfl⟩
  m := fun x y h => by cases h
  b := fun h => absurd h (by decide)
  r := fun h => absurd h (by decide)
  i := by kernel_rfl
  k := fun k h => by cases h
  q := fun h => absurd h (by decide)
  p := fun k e h => by cases h

theorem ty33 : TyOk Try.prog 33 { zv := .agg #[.int .i64 0, .int .i64 0, .int .i64 0, .int .i64 0, .int .i64 0, .int .i64 0, .int .i64 0, .slice none 0 0], size := 8, agg := true, flds := [0, 2, 7], fsz := [2, 5, 1], arr := none, slc := none, tag := 0, bytes := 80, int := none, mp := none } where
  z := fun _ => by kernel_rfl
  s := fun _ => by kernel_rfl
  a := fun _ => by kernel_rfl
  f := fun f off h => match f, off, h with
      | 0, _, rfl => fun _ _ _ => by kernel_rfl
      | 1, _, rfl => fun _ _ _ => by kernel_rfl
      | 2, _, rfl => fun _ _ _ => by kernel_rfl
      | _ + 3, _, h => by simp at h
  g := fun len es h => by cases h
  c := fun e s h => by cases h
  m := fun x y h => ⟨Try.prog.fieldsOf 33, by kernel_rfl, fun _ => by kernel_rfl⟩
  b := fun h => absurd h (by decide)
  r := fun h => absurd h (by decide)
  i := by kernel_rfl
  k := fun k h => by cases h
  q := fun h => absurd h (by decide)
  p := fun k e h => by cases h

theorem ty34 : TyOk Try.prog 34 { zv := .agg #[.int .i64 0, .int .i64 0, .int .i64 0, .int .i64 0, .int .i64 0, .int .i64 0, .int .i64 0, .slice none 0 0], size := 8, agg := true, flds := [0, 2, 7], fsz := [2, 5, 1], arr := none, slc := none, tag := 0, bytes := 80, int := none, mp := none } where
  z := fun _ => by kernel_rfl
  s := fun _ => by kernel_rfl
  a := fun _ => by kernel_rfl
  f := fun f off h => match f, off, h with
      | 0, _, rfl => fun _ _ _ => by kernel_rfl
      | 1, _, rfl => fun _ _ _ => by kernel_rfl
      | 2, _, rfl => fun _ _ _ => by kernel_rfl
      | _ + 3, _, h => by simp at h
  g := fun len es h => by cases h
  c := fun e s h => by cases h
  m := fun x y h => ⟨Try.prog.fieldsOf 34, by kernel_rfl, fun _ => by kernel_rfl⟩
  b := fun h => absurd h (by decide)
  r := fun h => absurd h (by decide)
  i := by kernel_rfl
  k := fun k h => by cases h
  q := fun h => absurd h (by decide)
  p := fun k e h => by cases h

theorem ty35 : TyOk Try.prog 35 { zv := .slice none 0 0, size := 1, agg := false, flds := [], fsz := [], arr := none, slc := some (67, 8), tag := 0, bytes := 24, int := none, mp := none } where
  z := fun _ => by kernel_rfl
  s := fun _ => by kernel_rfl
  a := fun _ => by kernel_rfl
  f := fun f off h => by simp at h
  g := fun len es h => by cases h
  c := fun e s h => by cases h; exact ⟨by kernel_rfl, fun _ => by kernel_rfl⟩
  m := fun x y h => by cases h
  b := fun h => absurd h (by decide)
  r := fun h => absurd h (by decide)
  i := by kernel_rfl
  k := fun k h => by cases h
  q := fun h => absurd h (by decide)
  p := fun k e h => by cases h

theorem ty36 : TyOk Try.prog 36 { zv := .nilFunc, size := 1, agg := false, flds := [], fsz := [], arr := none, slc := none, tag := 3, bytes := 8, int := none, mp := none } where
  z := fun _ => by kernel_rfl
  s := fun _ => by kernel_rfl
  a := fun _ => by kernel_rfl
  f := fun f off h => by simp at h
  g := fun len es h => by cases h
  c := fun e s h => by cases h
  m := fun x y h => by cases h
  b := fun h => absurd h (by decide)
  r := fun h => absurd h (by decide)
  i := by kernel_rfl
  k := fun k h => by cases h
  q := fun _ => isFunc_of (by kernel_rfl)
  p := fun k e h => by cases h

theorem ty37 : TyOk Try.prog 37 { zv := .nilFunc, size := 1, agg := false, flds := [], fsz := [], arr := none, slc := none, tag := 3, bytes := 8, int := none, mp := none } where
  z := fun _ => by kernel_rfl
  s := fun _ => by kernel_rfl
  a := fun _ => by kernel_rfl
  f := fun f off h => by simp at h
  g := fun len es h => by cases h
  c := fun e s h => by cases h
  m := fun x y h => by cases h
  b := fun h => absurd h (by decide)
  r := fun h => absurd h (by decide)
  i := by kernel_rfl
  k := fun k h => by cases h
  q := fun _ => isFunc_of (by kernel_rfl)
  p := fun k e h => by cases h

theorem ty38 : TyOk Try.prog 38 { zv := .int .i64 0, size := 1, agg := false, flds := [], fsz := [], arr := none, slc := none, tag := 0, bytes := 8, int := some .i64, mp := none } where
  z := fun _ => by kernel_rfl
  s := fun _ => by kernel_rfl
  a := fun _ => by kernel_rfl
  f := fun f off h => by simp at h
  g := fun len es h => by cases h
  c := fun e s h => by cases h
  m := fun x y h => by cases h
  b := fun h => absurd h (by decide)
  r := fun h => absurd h (by decide)
  i := by kernel_rfl
  k := fun k h => by cases h; kernel_rfl
  q := fun h => absurd h (by decide)
  p := fun k e h => by cases h

theorem ty40 : TyOk Try.prog 40 { zv := .nilFunc, size := 1, agg := false, flds := [], fsz := [], arr := none, slc := none, tag := 3, bytes := 8, int := none, mp := none } where
  z := fun _ => by kernel_rfl
  s := fun _ => by kernel_rfl
  a := fun _ => by kernel_rfl
  f := fun f off h => by simp at h
  g := fun len es h => by cases h
  c := fun e s h => by cases h
  m := fun x y h => by cases h
  b := fun h => absurd h (by decide)
  r := fun h => absurd h (by decide)
  i := by kernel_rfl
  k := fun k h => by cases h
  q := fun _ => isFunc_of (by kernel_rfl)
  p := fun k e h => by cases h

theorem ty41 : TyOk Try.prog 41 { zv := .nilFunc, size := 1, agg := false, flds := [], fsz := [], arr := none, slc := none, tag := 3, bytes := 8, int := none, mp := none } where
  z := fun _ => by kernel_rfl
  s := fun _ => by kernel_rfl
  a := fun _ => by kernel_rfl
  f := fun f off h => by simp at h
  g := fun len es h => by cases h
  c := fun e s h => by cases h
  m := fun x y h => by cases h
  b := fun h => absurd h (by decide)
  r := fun h => absurd h (by decide)
  i := by kernel_rfl
  k := fun k h => by cases h
  q := fun _ => isFunc_of (by kernel_rfl)
  p := fun k e h => by cases h

theorem ty42 : TyOk Try.prog 42 { zv := .nilFunc, size := 1, agg := false, flds := [], fsz := [], arr := none, slc := none, tag := 3, bytes := 8, int := none, mp := none } where
  z := fun _ => by kernel_rfl
  s := fun _ => by kernel_rfl
  a := fun _ => by kernel_rfl
  f := fun f off h => by simp at h
  g := fun len es h => by cases h
  c := fun e s h => by cases h
  m := fun x y h => by cases h
  b := fun h => absurd h (by decide)
  r := fun h => absurd h (by decide)
  i := by kernel_rfl
  k := fun k h => by cases h
  q := fun _ => isFunc_of (by kernel_rfl)
  p := fun k e h => by cases h

theorem ty43 : TyOk Try.prog 43 { zv := .nilFunc, size := 1, agg := false, flds := [], fsz := [], arr := none, slc := none, tag := 3, bytes := 8, int := none, mp := none } where
  z := fun _ => by kernel_rfl
  s := fun _ => by kernel_rfl
  a := fun _ => by kernel_rfl
  f := fun f off h => by simp at h
  g := fun len es h => by cases h
  c := fun e s h => by cases h
  m := fun x y h => by cases h
  b := fun h => absurd h (by decide)
  r := fun h => absurd h (by decide)
  i := by kernel_rfl
  k := fun k h => by cases h
  q := fun _ => isFunc_of (by kernel_rfl)
  p := fun k e h => by cases h

theorem ty44 : TyOk Try.prog 44 { zv := .nilFunc, size := 1, agg := false, flds := [], fsz := [], arr := none, slc := none, tag := 3, bytes := 8, int := none, mp := none } where
  z := fun _ => by kernel_rfl
  s := fun _ => by kernel_rfl
  a := fun _ => by kernel_rfl
  f := fun f off h => by simp at h
  g := fun len es h => by cases h
  c := fun e s h => by cases h
  m := fun x y h => by cases h
  b := fun h => absurd h (by decide)
  r := fun h => absurd h (by decide)
  i := by kernel_rfl
  k := fun k h => by cases h
  q := fun _ => isFunc_of (by kernel_rfl)
  p := fun k e h => by cases h

theorem ty46 : TyOk Try.prog 46 { zv := .nilFunc, size := 1, agg := false, flds := [], fsz := [], arr := none, slc := none, tag := 3, bytes := 8, int := none, mp := none } where
  z := fun _ => by kernel_rfl
  s := fun _ => by kernel_rfl
  a := fun _ => by kernel_rfl
  f := fun f off h => by simp at h
  g := fun len es h => by cases h
  c := fun e s h => by cases h
  m := fun x y h => by cases h
  b := fun h => absurd h (by decide)
  r := fun h => absurd h (by decide)
  i := by kernel_rfl
  k := fun k h => by cases h
  q := fun _ => isFunc_of (by kernel_rfl)
  p := fun k e h => by cases h

theorem ty48 : TyOk Try.prog 48 { zv := .nilFunc, size := 1, agg := false, flds := [], fsz := [], arr := none, slc := none, tag := 3, bytes := 8, int := none, mp := none } where
  z := fun _ => by kernel_rfl
  s := fun _ => by kernel_rfl
  a := fun _ => by kernel_rfl
  f := fun f off h => by simp at h
  g := fun len es h => by cases h
  c := fun e s h => by cases h
  m := fun x y h => by cases h
  b := fun h => absurd h (by decide)
  r := fun h => absurd h (by decide)
  i := by kernel_rfl
  k := fun k h => by cases h
  q := fun _ => isFunc_of (by kernel_rfl)
  p := fun k e h => by cases h

theorem ty49 : TyOk Try.prog 49 { zv := .nilFunc, size := 1, agg := false, flds := [], fsz := [], arr := none, slc := none, tag := 3, bytes := 8, int := none, mp := none } where
  z := fun _ => by kernel_rfl
  s := fun _ => by kernel_rfl
  a := fun _ => by kernel_rfl
  f := fun f off h => by simp at h
  g := fun len es h => by cases h
  c := fun e s h => by cases h
  m := fun x y h => by cases h
  b := fun h => absurd h (by decide)
  r := fun h => absurd h (by decide)
  i := by kernel_rfl
  k := fun k h => by cases h
  q := fun _ => isFunc_of (by kernel_rfl)
  p := fun k e h => by cases h

theorem ty50 : TyOk Try.prog 50 { zv := .nilFunc, size := 1, agg := false, flds := [], fsz := [], arr := none, slc := none, tag := 3, bytes := 8, int := none, mp := none } where
  z := fun _ => by kernel_rfl
  s := fun _ => by kernel_rfl
  a := fun _ => by kernel_rfl
  f := fun f off h => by simp at h
  g := fun len es h => by cases h
  c := fun e s h => by cases h
  m := fun x y h => by cases h
  b := fun h => absurd h (by decide)
  r := fun h => absurd h (by decide)
  i := by kernel_rfl
  k := fun k h => by cases h
  q := fun _ => isFunc_of (by kernel_rfl)
  p := fun k e h => by cases h

theorem ty51 : TyOk Try.prog 51 { zv := .agg #[.int .i64 0, .int .i64 0], size := 2, agg := true, flds := [], fsz := [], arr := some (2, 1), slc := none, tag := 0, bytes := 16, int := none, mp := none } where
  z := fun _ => by kernel_rfl
  s := fun _ => by kernel_rfl
  a := fun _ => by kernel_rfl
  f := fun f off h => by simp at h
  g := fun len es h => by cases h; exact ⟨3, by kernel_rfl, fun _ => by kernel_rfl, fun _ _ => by kernel_rfl⟩
  c := fun e s h => by cases h
  m := fun x y h => by cases h
  b := fun h => absurd h (by decide)
  r := fun h => absurd h (by decide)
  i := by kernel_rfl
  k := fun k h => by cases h
  q := fun h => absurd h (by decide)
  p := fun k e h => by cases h

theorem ty52 : TyOk Try.prog 52 { zv := .nilFunc, size := 1, agg := false, flds := [], fsz := [], arr := none, slc := none, tag := 3, bytes := 8, int := none, mp := none } where
  z := fun _ => by kernel_rfl
  s := fun _ => by kernel_rfl
  a := fun _ => by kernel_rfl
  f := fun f off h => by simp at h
  g := fun len es h => by cases h
  c := fun e s h => by cases h
  m := fun x y h => by cases h
  b := fun h => absurd h (by decide)
  r := fun h => absurd h (by decide)
  i := by kernel_rfl
  k := fun k h => by cases h
  q := fun _ => isFunc_of (by kernel_rfl)
  p := fun k e h => by cases h

theorem ty53 : TyOk Try.prog 53 { zv := .int .u64 0, size := 1, agg := false, flds := [], fsz := [], arr := none, slc := none, tag := 0, bytes := 8, int := some .u64, mp := none } where
  z := fun _ => by kernel_rfl
  s := fun _ => by kernel_rfl
  a := fun _ => by kernel_rfl
  f := fun f off h => by simp at h
  g := fun len es h => by cases h
  c := fun e s h => by cases h
  m := fun x y h => by cases h
  b := fun h => absurd h (by decide)
  r := fun h => absurd h (by decide)
  i := by kernel_rfl
  k := fun k h => by cases h; kernel_rfl
  q := fun h => absurd h (by decide)
  p := fun k e h => by cases h

theorem ty54 : TyOk Try.prog 54 { zv := .agg #[.int .i64 0, .int .i64 0], size := 2, agg := true, flds := [0, 1], fsz := [1, 1], arr := none, slc := none, tag := 0, bytes := 16, int := none, mp := none } where
  z := fun _ => by kernel_rfl
  s := fun _ => by kernel_rfl
  a := fun _ => by kernel_rfl
  f := fun f off h => match f, off, h with
      | 0, _, rfl => fun _ _ _ => by kernel_rfl
      | 1, _, rfl => fun _ _ _ => by kernel_rfl
      | _ + 2, _, h => by simp at h
  g := fun len es h => by cases h
  c := fun e s h => by cases h
  m := fun x y h => ⟨Try.prog.fieldsOf 54, by kernel_rfl, fun _ => by kernel_rfl⟩
  b := fun h => absurd h (by decide)
  r := fun h => absurd h (by decide)
  i := by kernel_rfl
  k := fun k h => by cases h
  q := fun h => absurd h (by decide)
  p := fun k e h => by cases h

theorem ty55 : TyOk Try.prog 55 { zv := .agg #[.int .i64 0, .int .i64 0], size := 2, agg := true, flds := [0, 1], fsz := [1, 1], arr := none, slc := none, tag := 0, bytes := 16, int := none, mp := none } where
  z := fun _ => by kernel_rfl
  s := fun _ => by kernel_rfl
  a := fun _ => by kernel_rfl
  f := fun f off h => match f, off, h with
      | 0, _, rfl => fun _ _ _ => by kernel_rfl
      | 1, _, rfl => fun _ _ _ => by kernel_rfl
      | _ + 2, _, h => by simp at h
  g := fun len es h => by cases h
  c := fun e s h => by cases h
  m := fun x y h => ⟨Try.prog.fieldsOf 55, by kernel_rfl, fun _ => by kernel_rfl⟩
  b := fun h => absurd h (by decide)
  r := fun h => absurd h (by decide)
  i := by kernel_rfl
  k := fun k h => by cases h
  q := fun h => absurd h (by decide)
  p := fun k e h => by cases h

theorem ty56 : TyOk Try.prog 56 { zv := .nilFunc, size := 1, agg := false, flds := [], fsz := [], arr := none, slc := none, tag := 3, bytes := 8, int := none, mp := none } where
  z := fun _ => by kernel_rfl
  s := fun _ => by kernel_rfl
  a := fun _ => by kernel_rfl
  f := fun f off h => by simp at h
  g := fun len es h => by cases h
  c := fun e s h => by cases h
  m := fun x y h => by cases h
  b := fun h => absurd h (by decide)
  r := fun h => absurd h (by decide)
  i := by kernel_rfl
  k := fun k h => by cases h
  q := fun _ => isFunc_of (by kernel_rfl)
  p := fun k e h => by cases h

theorem ty57 : TyOk Try.prog 57 { zv := .nilFunc, size := 1, agg := false, flds := [], fsz := [], arr := none, slc := none, tag := 3, bytes := 8, int := none, mp := none } where
  z := fun _ => by kernel_rfl
  s := fun _ => by kernel_rfl
  a := fun _ => by kernel_rfl
  f := fun f off h => by simp at h
  g := fun len es h => by cases h
  c := fun e s h => by cases h
  m := fun x y h => by cases h
  b := fun h => absurd h (by decide)
  r := fun h => absurd h (by decide)
  i := by kernel_rfl
  k := fun k h => by cases h
  q := fun _ => isFunc_of (by kernel_rfl)
  p := fun k e h => by cases h

theorem ty58 : TyOk Try.prog 58 { zv := .nilFunc, size := 1, agg := false, flds := [], fsz := [], arr := none, slc := none, tag := 3, bytes := 8, int := none, mp := none } where
  z := fun _ => by kernel_rfl
  s := fun _ => by kernel_rfl
  a := fun _ => by kernel_rfl
  f := fun f off h => by simp at h
  g := fun len es h => by cases h
  c := fun e s h => by cases h
  m := fun x y h => by cases h
  b := fun h => absurd h (by decide)
  r := fun h => absurd h (by decide)
  i := by kernel_rfl
  k := fun k h => by cases h
  q := fun _ => isFunc_of (by kernel_rfl)
  p := fun k e h => by cases h

theorem ty59 : TyOk Try.prog 59 { zv := .slice none 0 0, size := 1, agg := false, flds := [], fsz := [], arr := none, slc := some (3, 1), tag := 0, bytes := 24, int := none, mp := none } where
  z := fun _ => by kernel_rfl
  s := fun _ => by kernel_rfl
  a := fun _ => by kernel_rfl
  f := fun f off h => by simp at h
  g := fun len es h => by cases h
  c := fun e s h => by cases h; exact ⟨by kernel_rfl, fun _ => by kernel_rfl⟩
  m := fun x y h => by cases h
  b := fun h => absurd h (by decide)
  r := fun h => absurd h (by decide)
  i := by kernel_rfl
  k := fun k h => by cases h
  q := fun h => absurd h (by decide)
  p := fun k e h => by cases h

theorem ty60 : TyOk Try.prog 60 { zv := .nilFunc, size := 1, agg := false, flds := [], fsz := [], arr := none, slc := none, tag := 3, bytes := 8, int := none, mp := none } where
  z := fun _ => by kernel_rfl
  s := fun _ => by kernel_rfl
  a := fun _ => by kernel_rfl
  f := fun f off h => by simp at h
  g := fun len es h => by cases h
  c := fun e s h => by cases h
  m := fun x y h => by cases h
  b := fun h => absurd h (by decide)
  r := fun h => absurd h (by decide)
  i := by kernel_rfl
  k := fun k h => by cases h
  q := fun _ => isFunc_of (by kernel_rfl)
  p := fun k e h => by cases h

theorem ty61 : TyOk Try.prog 61 { zv := .nilFunc, size := 1, agg := false, flds := [], fsz := [], arr := none, slc := none, tag := 3, bytes := 8, int := none, mp := none } where
  z := fun _ => by kernel_rfl
  s := fun _ => by kernel_rfl
  a := fun _ => by kernel_rfl
  f := fun f off h => by simp at h
  g := fun len es h => by cases h
  c := fun e s h => by cases h
  m := fun x y h => by cases h
  b := fun h => absurd h (by decide)
  r := fun h => absurd h (by decide)
  i := by kernel_rfl
  k := fun k h => by cases h
  q := fun _ => isFunc_of (by kernel_rfl)
  p := fun k e h => by cases h

theorem ty62 : TyOk Try.prog 62 { zv := .nilFunc, size := 1, agg := false, flds := [], fsz := [], arr := none, slc := none, tag := 3, bytes := 8, int := none, mp := none } where
  z := fun _ => by kernel_rfl
  s := fun _ => by kernel_rfl
  a := fun _ => by kernel_rfl
  f := fun f off h => by simp at h
  g := fun len es h => by cases h
  c := fun e s h => by cases h
  m := fun x y h => by cases h
  b := fun h => absurd h (by decide)
  r := fun h => absurd h (by decide)
  i := by kernel_rfl
  k := fun k h => by cases h
  q := fun _ => isFunc_of (by kernel_rfl)
  p := fun k e h => by cases h

theorem ty63 : TyOk Try.prog 63 { zv := .nilFunc, size := 1, agg := false, flds := [], fsz := [], arr := none, slc := none, tag := 3, bytes := 8, int := none, mp := none } where
  z := fun _ => by kernel_rfl
  s := fun _ => by kernel_rfl
  a := fun _ => by kernel_rfl
  f := fun f off h => by simp at h
  g := fun len es h => by cases h
  c := fun e s h => by cases h
  m := fun x y h => by cases h
  b := fun h => absurd h (by decide)
  r := fun h => absurd h (by decide)
  i := by kernel_rfl
  k := fun k h => by cases h
  q := fun _ => isFunc_of (by kernel_rfl)
  p := fun k e h => by cases h

theorem ty64 : TyOk Try.prog 64 { zv := .nilFunc, size := 1, agg := false, flds := [], fsz := [], arr := none, slc := none, tag := 3, bytes := 8, int := none, mp := none } where
  z := fun _ => by kernel_rfl
  s := fun _ => by kernel_rfl
  a := fun _ => by kernel_rfl
  f := fun f off h => by simp at h
  g := fun len es h => by cases h
  c := fun e s h => by cases h
  m := fun x y h => by cases h
  b := fun h => absurd h (by decide)
  r := fun h => absurd h (by decide)
  i := by kernel_rfl
  k := fun k h => by cases h
  q := fun _ => isFunc_of (by kernel_rfl)
  p := fun k e h => by cases h

theorem ty65 : TyOk Try.prog 65 { zv := .nilFunc, size := 1, agg := false, flds := [], fsz := [], arr := none, slc := none, tag := 3, bytes := 8, int := none, mp := none } where
  z := fun _ => by kernel_rfl
  s := fun _ => by kernel_rfl
  a := fun _ => by kernel_rfl
  f := fun f off h => by simp at h
  g := fun len es h => by cases h
  c := fun e s h => by cases h
  m := fun x y h => by cases h
  b := fun h => absurd h (by decide)
  r := fun h => absurd h (by decide)
  i := by kernel_rfl
  k := fun k h => by cases h
  q := fun _ => isFunc_of (by kernel_rfl)
  p := fun k e h => by cases h

theorem ty66 : TyOk Try.prog 66 { zv := .agg #[.int .i64 0, .int .i64 0, .int .i64 0, .int .i64 0, .int .i64 0, .int .i64 0, .int .i64 0, .int .i64 0], size := 8, agg := true, flds := [0, 2, 7], fsz := [2, 5, 1], arr := none, slc := none, tag := 0, bytes := 64, int := none, mp := none } where
  z := fun _ => by kernel_rfl
  s := fun _ => by kernel_rfl
  a := fun _ => by kernel_rfl
  f := fun f off h => match f, off, h with
      | 0, _, rfl => fun _ _ _ => by kernel_rfl
      | 1, _, rfl => fun _ _ _ => by kernel_rfl
      | 2, _, rfl => fun _ _ _ => by kernel_rfl
      | _ + 3, _, h => by simp at h
  g := fun len es h => by cases h
  c := fun e s h => by cases h
  m := fun x y h => ⟨Try.prog.fieldsOf 66, by kernel_rfl, fun _ => by kernel_rfl⟩
  b := fun h => absurd h (by decide)
  r := fun h => absurd h (by decide)
  i := by kernel_rfl
  k := fun k h => by cases h
  q := fun h => absurd h (by decide)
  p := fun k e h => by cases h

theorem ty67 : TyOk Try.prog 67 { zv := .agg #[.int .i64 0, .int .i64 0, .int .i64 0, .int .i64 0, .int .i64 0, .int .i64 0, .int .i64 0, .int .i64 0], size := 8, agg := true, flds := [0, 2, 7], fsz := [2, 5, 1], arr := none, slc := none, tag := 0, bytes := 64, int := none, mp := none } where
  z := fun _ => by kernel_rfl
  s := fun _ => by kernel_rfl
  a := fun _ => by kernel_rfl
  f := fun f off h => match f, off, h with
      | 0, _, rfl => fun _ _ _ => by kernel_rfl
      | 1, _, rfl => fun _ _ _ => by kernel_rfl
      | 2, _, rfl => fun _ _ _ => by kernel_rfl
      | _ + 3, _, h => by simp at h
  g := fun len es h => by cases h
  c := fun e s h => by cases h
  m := fun x y h => ⟨Try.prog.fieldsOf 67, by kernel_rfl, fun _ => by kernel_rfl⟩
  b := fun h => absurd h (by decide)
  r := fun h => absurd h (by decide)
  i := by kernel_rfl
  k := fun k h => by cases h
  q := fun h => absurd h (by decide)
  p := fun k e h => by cases h

theorem ty68 : TyOk Try.prog 68 { zv := .nilFunc, size := 1, agg := false, flds := [], fsz := [], arr := none, slc := none, tag := 3, bytes := 8, int := none, mp := none } where
  z := fun _ => by kernel_rfl
  s := fun _ => by kernel_rfl
  a := fun _ => by kernel_rfl
  f := fun f off h => by simp at h
  g := fun len es h => by cases h
  c := fun e s h => by cases h
  m := fun x y h => by cases h
  b := fun h => absurd h (by decide)
  r := fun h => absurd h (by decide)
  i := by kernel_rfl
  k := fun k h => by cases h
  q := fun _ => isFunc_of (by kernel_rfl)
  p := fun k e h => by cases h

theorem ty69 : TyOk Try.prog 69 { zv := .nilFunc, size := 1, agg := false, flds := [], fsz := [], arr := none, slc := none, tag := 3, bytes := 8, int := none, mp := none } where
  z := fun _ => by kernel_rfl
  s := fun _ => by kernel_rfl
  a := fun _ => by kernel_rfl
  f := fun f off h => by simp at h
  g := fun len es h => by cases h
  c := fun e s h => by cases h
  m := fun x y h => by cases h
  b := fun h => absurd h (by decide)
  r := fun h => absurd h (by decide)
  i := by kernel_rfl
  k := fun k h => by cases h
  q := fun _ => isFunc_of (by kernel_rfl)
  p := fun k e h => by cases h

theorem ty70 : TyOk Try.prog 70 { zv := .nilFunc, size := 1, agg := false, flds := [], fsz := [], arr := none, slc := none, tag := 3, bytes := 8, int := none, mp := none } where
  z := fun _ => by kernel_rfl
  s := fun _ => by kernel_rfl
  a := fun _ => by kernel_rfl
  f := fun f off h => by simp at h
  g := fun len es h => by cases h
  c := fun e s h => by cases h
  m := fun x y h => by cases h
  b := fun h => absurd h (by decide)
  r := fun h => absurd h (by decide)
  i := by kernel_rfl
  k := fun k h => by cases h
  q := fun _ => isFunc_of (by kernel_rfl)
  p := fun k e h => by cases h

theorem ty72 : TyOk Try.prog 72 { zv := .nilFunc, size := 1, agg := false, flds := [], fsz := [], arr := none, slc := none, tag := 3, bytes := 8, int := none, mp := none } where
  z := fun _ => by kernel_rfl
  s := fun _ => by kernel_rfl
  a := fun _ => by kernel_rfl
  f := fun f off h => by simp at h
  g := fun len es h => by cases h
  c := fun e s h => by cases h
  m := fun x y h => by cases h
  b := fun h => absurd h (by decide)
  r := fun h => absurd h (by decide)
  i := by kernel_rfl
  k := fun k h => by cases h
  q := fun _ => isFunc_of (by kernel_rfl)
  p := fun k e h => by cases h

theorem ty74 : TyOk Try.prog 74 { zv := .nilFunc, size := 1, agg := false, flds := [], fsz := [], arr := none, slc := none, tag := 3, bytes := 8, int := none, mp := none } where
  z := fun _ => by kernel_rfl
  s := fun _ => by kernel_rfl
  a := fun _ => by kernel_rfl
  f := fun f off h => by simp at h
  g := fun len es h => by cases h
  c := fun e s h => by cases h
  m := fun x y h => by cases h
  b := fun h => absurd h (by decide)
  r := fun h => absurd h (by decide)
  i := by kernel_rfl
  k := fun k h => by cases h
  q := fun _ => isFunc_of (by kernel_rfl)
  p := fun k e h => by cases h

theorem ty75 : TyOk Try.prog 75 { zv := .nilFunc, size := 1, agg := false, flds := [], fsz := [], arr := none, slc := none, tag := 3, bytes := 8, int := none, mp := none } where
  z := fun _ => by kernel_rfl
  s := fun _ => by kernel_rfl
  a := fun _ => by kernel_rfl
  f := fun f off h => by simp at h
  g := fun len es h => by cases h
  c := fun e s h => by cases h
  m := fun x y h => by cases h
  b := fun h => absurd h (by decide)
  r := fun h => absurd h (by decide)
  i := by kernel_rfl
  k := fun k h => by cases h
  q := fun _ => isFunc_of (by kernel_rfl)
  p := fun k e h => by cases h

theorem ty76 : TyOk Try.prog 76 { zv := .nilFunc, size := 1, agg := false, flds := [], fsz := [], arr := none, slc := none, tag := 3, bytes := 8, int := none, mp := none } where
  z := fun _ => by kernel_rfl
  s := fun _ => by kernel_rfl
  a := fun _ => by kernel_rfl
  f := fun f off h => by simp at h
  g := fun len es h => by cases h
  c := fun e s h => by cases h
  m := fun x y h => by cases h
  b := fun h => absurd h (by decide)
  r := fun h => absurd h (by decide)
  i := by kernel_rfl
  k := fun k h => by cases h
  q := fun _ => isFunc_of (by kernel_rfl)
  p := fun k e h => by cases h

theorem ty77 : TyOk Try.prog 77 { zv := .nilFunc, size := 1, agg := false, flds := [], fsz := [], arr := none, slc := none, tag := 3, bytes := 8, int := none, mp := none } where
  z := fun _ => by kernel_rfl
  s := fun _ => by kernel_rfl
  a := fun _ => by kernel_rfl
  f := fun f off h => by simp at h
  g := fun len es h => by cases h
  c := fun e s h => by cases h
  m := fun x y h => by cases h
  b := fun h => absurd h (by decide)
  r := fun h => absurd h (by decide)
  i := by kernel_rfl
  k := fun k h => by cases h
  q := fun _ => isFunc_of (by kernel_rfl)
  p := fun k e h => by cases h

theorem ty78 : TyOk Try.prog 78 { zv := .nilFunc, size := 1, agg := false, flds := [], fsz := [], arr := none, slc := none, tag := 3, bytes := 8, int := none, mp := none } where
  z := fun _ => by kernel_rfl
  s := fun _ => by kernel_rfl
  a := fun _ => by kernel_rfl
  f := fun f off h => by simp at h
  g := fun len es h => by cases h
  c := fun e s h => by cases h
  m := fun x y h => by cases h
  b := fun h => absurd h (by decide)
  r := fun h => absurd h (by decide)
  i := by kernel_rfl
  k := fun k h => by cases h
  q := fun _ => isFunc_of (by kernel_rfl)
  p := fun k e h => by cases h

theorem ty79 : TyOk Try.prog 79 { zv := .nilFunc, size := 1, agg := false, flds := [], fsz := [], arr := none, slc := none, tag := 3, bytes := 8, int := none, mp := none } where
  z := fun _ => by kernel_rfl
  s := fun _ => by kernel_rfl
  a := fun _ => by kernel_rfl
  f := fun f off h => by simp at h
  g := fun len es h => by cases h
  c := fun e s h => by cases h
  m := fun x y h => by cases h
  b := fun h => absurd h (by decide)
  r := fun h => absurd h (by decide)
  i := by kernel_rfl
  k := fun k h => by cases h
  q := fun _ => isFunc_of (by kernel_rfl)
  p := fun k e h => by cases h

theorem ty80 : TyOk Try.prog 80 { zv := .nilFunc, size := 1, agg := false, flds := [], fsz := [], arr := none, slc := none, tag := 3, bytes := 8, int := none, mp := none } where
  z := fun _ => by kernel_rfl
  s := fun _ => by kernel_rfl
  a := fun _ => by kernel_rfl
  f := fun f off h => by simp at h
  g := fun len es h => by cases h
  c := fun e s h => by cases h
  m := fun x y h => by cases h
  b := fun h => absurd h (by decide)
  r := fun h => absurd h (by decide)
  i := by kernel_rfl
  k := fun k h => by cases h
  q := fun _ => isFunc_of (by kernel_rfl)
  p := fun k e h => by cases h

theorem ty81 : TyOk Try.prog 81 { zv := .nilFunc, size := 1, agg := false, flds := [], fsz := [], arr := none, slc := none, tag := 3, bytes := 8, int := none, mp := none } where
  z := fun _ => by kernel_rfl
  s := fun _ => by kernel_rfl
  a := fun _ => by kernel_rfl
  f := fun f off h => by simp at h
  g := fun len es h => by cases h
  c := fun e s h => by cases h
  m := fun x y h => by cases h
  b := fun h => absurd h (by decide)
  r := fun h => absurd h (by decide)
  i := by kernel_rfl
  k := fun k h => by cases h
  q := fun _ => isFunc_of (by kernel_rfl)
  p := fun k e h => by cases h

theorem ty82 : TyOk Try.prog 82 { zv := .nilFunc, size := 1, agg := false, flds := [], fsz := [], arr := none, slc := none, tag := 3, bytes := 8, int := none, mp := none } where
  z := fun _ => by kernel_rfl
  s := fun _ => by kernel_rfl
  a := fun _ => by kernel_rfl
  f := fun f off h => by simp at h
  g := fun len es h => by cases h
  c := fun e s h => by cases h
  m := fun x y h => by cases h
  b := fun h => absurd h (by decide)
  r := fun h => absurd h (by decide)
  i := by kernel_rfl
  k := fun k h => by cases h
  q := fun _ => isFunc_of (by kernel_rfl)
  p := fun k e h => by cases h

theorem ty83 : TyOk Try.prog 83 { zv := .nilFunc, size := 1, agg := false, flds := [], fsz := [], arr := none, slc := none, tag := 3, bytes := 8, int := none, mp := none } where
  z := fun _ => by kernel_rfl
  s := fun _ => by kernel_rfl
  a := fun _ => by kernel_rfl
  f := fun f off h => by simp at h
  g := fun len es h => by cases h
  c := fun e s h => by cases h
  m := fun x y h => by cases h
  b := fun h => absurd h (by decide)
  r := fun h => absurd h (by decide)
  i := by kernel_rfl
  k := fun k h => by cases h
  q := fun _ => isFunc_of (by kernel_rfl)
  p := fun k e h => by cases h

theorem ty84 : TyOk Try.prog 84 { zv := .nilFunc, size := 1, agg := false, flds := [], fsz := [], arr := none, slc := none, tag := 3, bytes := 8, int := none, mp := none } where
  z := fun _ => by kernel_rfl
  s := fun _ => by kernel_rfl
  a := fun _ => by kernel_rfl
  f := fun f off h => by simp at h
  g := fun len es h => by cases h
  c := fun e s h => by cases h
  m := fun x y h => by cases h
  b := fun h => absurd h (by decide)
  r := fun h => absurd h (by decide)
  i := by kernel_rfl
  k := fun k h => by cases h
  q := fun _ => isFunc_of (by kernel_rfl)
  p := fun k e h => by cases h

theorem ty85 : TyOk Try.prog 85 { zv := .int .u64 0, size := 1, agg := false, flds := [], fsz := [], arr := none, slc := none, tag := 0, bytes := 8, int := some .u64, mp := none } where
  z := fun _ => by kernel_rfl
  s := fun _ => by kernel_rfl
  a := fun _ => by kernel_rfl
  f := fun f off h => by simp at h
  g := fun len es h => by cases h
  c := fun e s h => by cases h
  m := fun x y h => by cases h
  b := fun h => absurd h (by decide)
  r := fun h => absurd h (by decide)
  i := by kernel_rfl
  k := fun k h => by cases h; kernel_rfl
  q := fun h => absurd h (by decide)
  p := fun k e h => by cases h

theorem ty86 : TyOk Try.prog 86 { zv := .nilFunc, size := 1, agg := false, flds := [], fsz := [], arr := none, slc := none, tag := 3, bytes := 8, int := none, mp := none } where
  z := fun _ => by kernel_rfl
  s := fun _ => by kernel_rfl
  a := fun _ => by kernel_rfl
  f := fun f off h => by simp at h
  g := fun len es h => by cases h
  c := fun e s h => by cases h
  m := fun x y h => by cases h
  b := fun h => absurd h (by decide)
  r := fun h => absurd h (by decide)
  i := by kernel_rfl
  k := fun k h => by cases h
  q := fun _ => isFunc_of (by kernel_rfl)
  p := fun k e h => by cases h

theorem ty87 : TyOk Try.prog 87 { zv := .nilFunc, size := 1, agg := false, flds := [], fsz := [], arr := none, slc := none, tag := 3, bytes := 8, int := none, mp := none } where
  z := fun _ => by kernel_rfl
  s := fun _ => by kernel_rfl
  a := fun _ => by kernel_rfl
  f := fun f off h => by simp at h
  g := fun len es h => by cases h
  c := fun e s h => by cases h
  m := fun x y h => by cases h
  b := fun h => absurd h (by decide)
  r := fun h => absurd h (by decide)
  i := by kernel_rfl
  k := fun k h => by cases h
  q := fun _ => isFunc_of (by kernel_rfl)
  p := fun k e h => by cases h

theorem ty88 : TyOk Try.prog 88 { zv := .nilFunc, size := 1, agg := false, flds := [], fsz := [], arr := none, slc := none, tag := 3, bytes := 8, int := none, mp := none } where
  z := fun _ => by kernel_rfl
  s := fun _ => by kernel_rfl
  a := fun _ => by kernel_rfl
  f := fun f off h => by simp at h
  g := fun len es h => by cases h
  c := fun e s h => by cases h
  m := fun x y h => by cases h
  b := fun h => absurd h (by decide)
  r := fun h => absurd h (by decide)
  i := by kernel_rfl
  k := fun k h => by cases h
  q := fun _ => isFunc_of (by kernel_rfl)
  p := fun k e h => by cases h

theorem ty89 : TyOk Try.prog 89 { zv := .nilFunc, size := 1, agg := false, flds := [], fsz := [], arr := none, slc := none, tag := 3, bytes := 8, int := none, mp := none } where
  z := fun _ => by kernel_rfl
  s := fun _ => by kernel_rfl
  a := fun _ => by kernel_rfl
  f := fun f off h => by simp at h
  g := fun len es h => by cases h
  c := fun e s h => by cases h
  m := fun x y h => by cases h
  b := fun h => absurd h (by decide)
  r := fun h => absurd h (by decide)
  i := by kernel_rfl
  k := fun k h => by cases h
  q := fun _ => isFunc_of (by kernel_rfl)
  p := fun k e h => by cases h

theorem ty90 : TyOk Try.prog 90 { zv := .nilFunc, size := 1, agg := false, flds := [], fsz := [], arr := none, slc := none, tag := 3, bytes := 8, int := none, mp := none } where
  z := fun _ => by kernel_rfl
  s := fun _ => by kernel_rfl
  a := fun _ => by kernel_rfl
  f := fun f off h => by simp at h
  g := fun len es h => by cases h
  c := fun e s h => by cases h
  m := fun x y h => by cases h
  b := fun h => absurd h (by decide)
  r := fun h => absurd h (by decide)
  i := by kernel_rfl
  k := fun k h => by cases h
  q := fun _ => isFunc_of (by kernel_rfl)
  p := fun k e h => by cases h

theorem ty91 : TyOk Try.prog 91 { zv := .nilFunc, size := 1, agg := false, flds := [], fsz := [], arr := none, slc := none, tag := 3, bytes := 8, int := none, mp := none } where
  z := fun _ => by kernel_rfl
  s := fun _ => by kernel_rfl
  a := fun _ => by kernel_rfl
  f := fun f off h => by simp at h
  g := fun len es h => by cases h
  c := fun e s h => by cases h
  m := fun x y h => by cases h
  b := fun h => absurd h (by decide)
  r := fun h => absurd h (by decide)
  i := by kernel_rfl
  k := fun k h => by cases h
  q := fun _ => isFunc_of (by kernel_rfl)
  p := fun k e h => by cases h

theorem ty92 : TyOk Try.prog 92 { zv := .nilFunc, size := 1, agg := false, flds := [], fsz := [], arr := none, slc := none, tag := 3, bytes := 8, int := none, mp := none } where
  z := fun _ => by kernel_rfl
  s := fun _ => by kernel_rfl
  a := fun _ => by kernel_rfl
  f := fun f off h => by simp at h
  g := fun len es h => by cases h
  c := fun e s h => by cases h
  m := fun x y h => by cases h
  b := fun h => absurd h (by decide)
  r := fun h => absurd h (by decide)
  i := by kernel_rfl
  k := fun k h => by cases h
  q := fun _ => isFunc_of (by kernel_rfl)
  p := fun k e h => by cases h

theorem ty93 : TyOk Try.prog 93 { zv := .slice none 0 0, size := 1, agg := false, flds := [], fsz := [], arr := none, slc := some (59, 1), tag := 0, bytes := 24, int := none, mp := none } where
  z := fun _ => by kernel_rfl
  s := fun _ => by kernel_rfl
  a := fun _ => by kernel_rfl
  f := fun f off h => by simp at h
  g := fun len es h => by cases h
  c := fun e s h => by cases h; exact ⟨by kernel_rfl, fun _ => by kernel_rfl⟩
  m := fun x y h => by cases h
  b := fun h => absurd h (by decide)
  r := fun h => absurd h (by decide)
  i := by kernel_rfl
  k := fun k h => by cases h
  q := fun h => absurd h (by decide)
  p := fun k e h => by cases h

theorem ty94 : TyOk Try.prog 94 { zv := .nilFunc, size := 1, agg := false, flds := [], fsz := [], arr := none, slc := none, tag := 3, bytes := 8, int := none, mp := none } where
  z := fun _ => by kernel_rfl
  s := fun _ => by kernel_rfl
  a := fun _ => by kernel_rfl
  f := fun f off h => by simp at h
  g := fun len es h => by cases h
  c := fun e s h => by cases h
  m := fun x y h => by cases h
  b := fun h => absurd h (by decide)
  r := fun h => absurd h (by decide)
  i := by kernel_rfl
  k := fun k h => by cases h
  q := fun _ => isFunc_of (by kernel_rfl)
  p := fun k e h => by cases h

theorem ty95 : TyOk Try.prog 95 { zv := .nilFunc, size := 1, agg := false, flds := [], fsz := [], arr := none, slc := none, tag := 3, bytes := 8, int := none, mp := none } where
  z := fun _ => by kernel_rfl
  s := fun _ => by kernel_rfl
  a := fun _ => by kernel_rfl
  f := fun f off h => by simp at h
  g := fun len es h => by cases h
  c := fun e s h => by cases h
  m := fun x y h => by cases h
  b := fun h => absurd h (by decide)
  r := fun h => absurd h (by decide)
  i := by kernel_rfl
  k := fun k h => by cases h
  q := fun _ => isFunc_of (by kernel_rfl)
  p := fun k e h => by cases h

theorem ty96 : TyOk Try.prog 96 { zv := .nilFunc, size := 1, agg := false, flds := [], fsz := [], arr := none, slc := none, tag := 3, bytes := 8, int := none, mp := none } where
  z := fun _ => by kernel_rfl
  s := fun _ => by kernel_rfl
  a := fun _ => by kernel_rfl
  f := fun f off h => by simp at h
  g := fun len es h => by cases h
  c := fun e s h => by cases h
  m := fun x y h => by cases h
  b := fun h => absurd h (by decide)
  r := fun h => absurd h (by decide)
  i := by kernel_rfl
  k := fun k h => by cases h
  q := fun _ => isFunc_of (by kernel_rfl)
  p := fun k e h => by cases h

theorem ty97 : TyOk Try.prog 97 { zv := .nilFunc, size := 1, agg := false, flds := [], fsz := [], arr := none, slc := none, tag := 3, bytes := 8, int := none, mp := none } where
  z := fun _ => by kernel_rfl
  s := fun _ => by kernel_rfl
  a := fun _ => by kernel_rfl
  f := fun f off h => by simp at h
  g := fun len es h => by cases h
  c := fun e s h => by cases h
  m := fun x y h => by cases h
  b := fun h => absurd h (by decide)
  r := fun h => absurd h (by decide)
  i := by kernel_rfl
  k := fun k h => by cases h
  q := fun _ => isFunc_of (by kernel_rfl)
  p := fun k e h => by cases h

theorem ty98 : TyOk Try.prog 98 { zv := .nilFunc, size := 1, agg := false, flds := [], fsz := [], arr := none, slc := none, tag := 3, bytes := 8, int := none, mp := none } where
  z := fun _ => by kernel_rfl
  s := fun _ => by kernel_rfl
  a := fun _ => by kernel_rfl
  f := fun f off h => by simp at h
  g := fun len es h => by cases h
  c := fun e s h => by cases h
  m := fun x y h => by cases h
  b := fun h => absurd h (by decide)
  r := fun h => absurd h (by decide)
  i := by kernel_rfl
  k := fun k h => by cases h
  q := fun _ => isFunc_of (by kernel_rfl)
  p := fun k e h => by cases h

theorem ty99 : TyOk Try.prog 99 { zv := .nilFunc, size := 1, agg := false, flds := [], fsz := [], arr := none, slc := none, tag := 3, bytes := 8, int := none, mp := none } where
  z := fun _ => by kernel_rfl
  s := fun _ => by kernel_rfl
  a := fun _ => by kernel_rfl
  f := fun f off h => by simp at h
  g := fun len es h => by cases h
  c := fun e s h => by cases h
  m := fun x y h => by cases h
  b := fun h => absurd h (by decide)
  r := fun h => absurd h (by decide)
  i := by kernel_rfl
  k := fun k h => by cases h
  q := fun _ => isFunc_of (by kernel_rfl)
  p := fun k e h => by cases h

theorem ty100 : TyOk Try.prog 100 { zv := .nilFunc, size := 1, agg := false, flds := [], fsz := [], arr := none, slc := none, tag := 3, bytes := 8, int := none, mp := none } where
  z := fun _ => by kernel_rfl
  s := fun _ => by kernel_rfl
  a := fun _ => by kernel_rfl
  f := fun f off h => by simp at h
  g := fun len es h => by cases h
  c := fun e s h => by cases h
  m := fun x y h => by cases h
  b := fun h => absurd h (by decide)
  r := fun h => absurd h (by decide)
  i := by kernel_rfl
  k := fun k h => by cases h
  q := fun _ => isFunc_of (by kernel_rfl)
  p := fun k e h => by cases h

theorem ty106 : TyOk Try.prog 106 { zv := .nilFunc, size := 1, agg := false, flds := [], fsz := [], arr := none, slc := none, tag := 3, bytes := 8, int := none, mp := none } where
  z := fun _ => by kernel_rfl
  s := fun _ => by kernel_rfl
  a := fun _ => by kernel_rfl
  f := fun f off h => by simp at h
  g := fun len es h => by cases h
  c := fun e s h => by cases h
  m := fun x y h => by cases h
  b := fun h => absurd h (by decide)
  r := fun h => absurd h (by decide)
  i := by kernel_rfl
  k := fun k h => by cases h
  q := fun _ => isFunc_of (by kernel_rfl)
  p := fun k e h => by cases h

theorem ty109 : TyOk Try.prog 109 { zv := .nilFunc, size := 1, agg := false, flds := [], fsz := [], arr := none, slc := none, tag := 3, bytes := 8, int := none, mp := none } where
  z := fun _ => by kernel_rfl
  s := fun _ => by kernel_rfl
  a := fun _ => by kernel_rfl
  f := fun f off h => by simp at h
  g := fun len es h => by cases h
  c := fun e s h => by cases h
  m := fun x y h => by cases h
  b := fun h => absurd h (by decide)
  r := fun h => absurd h (by decide)
  i := by kernel_rfl
  k := fun k h => by cases h
  q := fun _ => isFunc_of (by kernel_rfl)
  p := fun k e h => by cases h

theorem ty110 : TyOk Try.prog 110 { zv := .pointer none, size := 1, agg := false, flds := [], fsz := [], arr := none, slc := none, tag := 0, bytes := 8, int := none, mp := none } where
  z := fun _ => by kernel_rfl
  s := fun _ => by kernel_rfl
  a := fun _ => by kernel_rfl
  f := fun f off h => by simp at h
  g := fun len es h => by cases h
  c := fun e s h => by cases h
  m := fun x y h => by cases h
  b := fun h => absurd h (by decide)
  r := fun h => absurd h (by decide)
  i := by kernel_rfl
  k := fun k h => by cases h
  q := fun h => absurd h (by decide)
  p := fun k e h => by cases h

def ent : Nat → Option Ty
  | 1 => some { zv := .nilFunc, size := 1, agg := false, flds := [], fsz := [], arr := none, slc := none, tag := 3, bytes := 8, int := none, mp := none }
  | 2 => some { zv := .int .i64 0, size := 1, agg := false, flds := [], fsz := [], arr := none, slc := none, tag := 0, bytes := 8, int := some .i64, mp := none }
  | 3 => some { zv := .int .i64 0, size := 1, agg := false, flds := [], fsz := [], arr := none, slc := none, tag := 0, bytes := 8, int := some .i64, mp := none }
  | 4 => some { zv := .bool false, size := 1, agg := false, flds := [], fsz := [], arr := none, slc := none, tag := 1, bytes := 1, int := none, mp := none }
  | 5 => some { zv := .int .u8 0, size := 1, agg := false, flds := [], fsz := [], arr := none, slc := none, tag := 0, bytes := 1, int := some .u8, mp := none }
  | 9 => some { zv := .string ⟨#[]⟩, size := 1, agg := false, flds := [], fsz := [], arr := none, slc := none, tag := 2, bytes := 16, int := none, mp := none }
  | 12 => some { zv := .int .u64 0, size := 1, agg := false, flds := [], fsz := [], arr := none, slc := none, tag := 0, bytes := 8, int := some .u64, mp := none }
  | 20 => some { zv := .nilIface, size := 1, agg := false, flds := [], fsz := [], arr := none, slc := none, tag := 0, bytes := 16, int := none, mp := none }
  | 21 => some { zv := .int .i32 0, size := 1, agg := false, flds := [], fsz := [], arr := none, slc := none, tag := 0, bytes := 4, int := some .i32, mp := none }
  | 22 => some { zv := .slice none 0 0, size := 1, agg := false, flds := [], fsz := [], arr := none, slc := some (5, 1), tag := 0, bytes := 24, int := none, mp := none }
  | 23 => some { zv := .nilFunc, size := 1, agg := false, flds := [], fsz := [], arr := none, slc := none, tag := 3, bytes := 8, int := none, mp := none }
  | 24 => some { zv := .int .u32 0, size := 1, agg := false, flds := [], fsz := [], arr := none, slc := none, tag := 0, bytes := 4, int := some .u32, mp := none }
  | 25 => some { zv := .nilFunc, size := 1, agg := false, flds := [], fsz := [], arr := none, slc := none, tag := 3, bytes := 8, int := none, mp := none }
  | 26 => some { zv := .nilFunc, size := 1, agg := false, flds := [], fsz := [], arr := none, slc := none, tag := 3, bytes := 8, int := none, mp := none }
  | 27 => some { zv := .agg #[.int .i64 0, .int .i64 0], size := 2, agg := true, flds := [0, 1], fsz := [1, 1], arr := none, slc := none, tag := 0, bytes := 16, int := none, mp := none }
  | 28 => some { zv := .agg #[.int .i64 0, .int .i64 0], size := 2, agg := true, flds := [0, 1], fsz := [1, 1], arr := none, slc := none, tag := 0, bytes := 16, int := none, mp := none }
  | 29 => some { zv := .agg #[.int .i64 0, .int .i64 0, .int .i64 0], size := 3, agg := true, flds := [], fsz := [], arr := some (3, 1), slc := none, tag := 0, bytes := 24, int := none, mp := none }
  | 30 => some { zv := .agg #[.int .i64 0, .int .i64 0, .int .i64 0, .int .i64 0, .int .i64 0], size := 5, agg := true, flds := [0, 1, 2], fsz := [1, 1, 3], arr := none, slc := none, tag := 0, bytes := 40, int := none, mp := none }
  | 31 => some { zv := .agg #[.int .i64 0, .int .i64 0, .int .i64 0, .int .i64 0, .int .i64 0], size := 5, agg := true, flds := [0, 1, 2], fsz := [1, 1, 3], arr := none, slc := none, tag := 0, bytes := 40, int := none, mp := none }
  | 32 => some { zv := .slice none 0 0, size := 1, agg := false, flds := [], fsz := [], arr := none, slc := some (55, 2), tag := 0, bytes := 24, int := none, mp := none }
  | 33 => some { zv := .agg #[.int .i64 0, .int .i64 0, .int .i64 0, .int .i64 0, .int .i64 0, .int .i64 0, .int .i64 0, .slice none 0 0], size := 8, agg := true, flds := [0, 2, 7], fsz := [2, 5, 1], arr := none, slc := none, tag := 0, bytes := 80, int := none, mp := none }
  | 34 => some { zv := .agg #[.int .i64 0, .int .i64 0, .int .i64 0, .int .i64 0, .int .i64 0, .int .i64 0, .int .i64 0, .slice none 0 0], size := 8, agg := true, flds := [0, 2, 7], fsz := [2, 5, 1], arr := none, slc := none, tag := 0, bytes := 80, int := none, mp := none }
  | 35 => some { zv := .slice none 0 0, size := 1, agg := false, flds := [], fsz := [], arr := none, slc := some (67, 8), tag := 0, bytes := 24, int := none, mp := none }
  | 36 => some { zv := .nilFunc, size := 1, agg := false, flds := [], fsz := [], arr := none, slc := none, tag := 3, bytes := 8, int := none, mp := none }
  | 37 => some { zv := .nilFunc, size := 1, agg := false, flds := [], fsz := [], arr := none, slc := none, tag := 3, bytes := 8, int := none, mp := none }
  | 38 => some { zv := .int .i64 0, size := 1, agg := false, flds := [], fsz := [], arr := none, slc := none, tag := 0, bytes := 8, int := some .i64, mp := none }
  | 40 => some { zv := .nilFunc, size := 1, agg := false, flds := [], fsz := [], arr := none, slc := none, tag := 3, bytes := 8, int := none, mp := none }
  | 41 => some { zv := .nilFunc, size := 1, agg := false, flds := [], fsz := [], arr := none, slc := none, tag := 3, bytes := 8, int := none, mp := none }
  | 42 => some { zv := .nilFunc, size := 1, agg := false, flds := [], fsz := [], arr := none, slc := none, tag := 3, bytes := 8, int := none, mp := none }
  | 43 => some { zv := .nilFunc, size := 1, agg := false, flds := [], fsz := [], arr := none, slc := none, tag := 3, bytes := 8, int := none, mp := none }
  | 44 => some { zv := .nilFunc, size := 1, agg := false, flds := [], fsz := [], arr := none, slc := none, tag := 3, bytes := 8, int := none, mp := none }
  | 46 => some { zv := .nilFunc, size := 1, agg := false, flds := [], fsz := [], arr := none, slc := none, tag := 3, bytes := 8, int := none, mp := none }
  | 48 => some { zv := .nilFunc, size := 1, agg := false, flds := [], fsz := [], arr := none, slc := none, tag := 3, bytes := 8, int := none, mp := none }
  | 49 => some { zv := .nilFunc, size := 1, agg := false, flds := [], fsz := [], arr := none, slc := none, tag := 3, bytes := 8, int := none, mp := none }
  | 50 => some { zv := .nilFunc, size := 1, agg := false, flds := [], fsz := [], arr := none, slc := none, tag := 3, bytes := 8, int := none, mp := none }
  | 51 => some { zv := .agg #[.int .i64 0, .int .i64 0], size := 2, agg := true, flds := [], fsz := [], arr := some (2, 1), slc := none, tag := 0, bytes := 16, int := none, mp := none }
  | 52 => some { zv := .nilFunc, size := 1, agg := false, flds := [], fsz := [], arr := none, slc := none, tag := 3, bytes := 8, int := none, mp := none }
  | 53 => some { zv := .int .u64 0, size := 1, agg := false, flds := [], fsz := [], arr := none, slc := none, tag := 0, bytes := 8, int := some .u64, mp := none }
  | 54 => some { zv := .agg #[.int .i64 0, .int .i64 0], size := 2, agg := true, flds := [0, 1], fsz := [1, 1], arr := none, slc := none, tag := 0, bytes := 16, int := none, mp := none }
  | 55 => some { zv := .agg #[.int .i64 0, .int .i64 0], size := 2, agg := true, flds := [0, 1], fsz := [1, 1], arr := none, slc := none, tag := 0, bytes := 16, int := none, mp := none }
  | 56 => some { zv := .nilFunc, size := 1, agg := false, flds := [], fsz := [], arr := none, slc := none, tag := 3, bytes := 8, int := none, mp := none }
  | 57 => some { zv := .nilFunc, size := 1, agg := false, flds := [], fsz := [], arr := none, slc := none, tag := 3, bytes := 8, int := none, mp := none }
  | 58 => some { zv := .nilFunc, size := 1, agg := false, flds := [], fsz := [], arr := none, slc := none, tag := 3, bytes := 8, int := none, mp := none }
  | 59 => some { zv := .slice none 0 0, size := 1, agg := false, flds := [], fsz := [], arr := none, slc := some (3, 1), tag := 0, bytes := 24, int := none, mp := none }
  | 60 => some { zv := .nilFunc, size := 1, agg := false, flds := [], fsz := [], arr := none, slc := none, tag := 3, bytes := 8, int := none, mp := none }
  | 61 => some { zv := .nilFunc, size := 1, agg := false, flds := [], fsz := [], arr := none, slc := none, tag := 3, bytes := 8, int := none, mp := none }
  | 62 => some { zv := .nilFunc, size := 1, agg := false, flds := [], fsz := [], arr := none, slc := none, tag := 3, bytes := 8, int := none, mp := none }
  | 63 => some { zv := .nilFunc, size := 1, agg := false, flds := [], fsz := [], arr := none, slc := none, tag := 3, bytes := 8, int := none, mp := none }
  | 64 => some { zv := .nilFunc, size := 1, agg := false, flds := [], fsz := [], arr := none, slc := none, tag := 3, bytes := 8, int := none, mp := none }
  | 65 => some { zv := .nilFunc, size := 1, agg := false, flds := [], fsz := [], arr := none, slc := none, tag := 3, bytes := 8, int := none, mp := none }
  | 66 => some { zv := .agg #[.int .i64 0, .int .i64 0, .int .i64 0, .int .i64 0, .int .i64 0, .int .i64 0, .int .i64 0, .int .i64 0], size := 8, agg := true, flds := [0, 2, 7], fsz := [2, 5, 1], arr := none, slc := none, tag := 0, bytes := 64, int := none, mp := none }
  | 67 => some { zv := .agg #[.int .i64 0, .int .i64 0, .int .i64 0, .int .i64 0, .int .i64 0, .int .i64 0, .int .i64 0, .int .i64 0], size := 8, agg := true, flds := [0, 2, 7], fsz := [2, 5, 1], arr := none, slc := none, tag := 0, bytes := 64, int := none, mp := none }
  | 68 => some { zv := .nilFunc, size := 1, agg := false, flds := [], fsz := [], arr := none, slc := none, tag := 3, bytes := 8, int := none, mp := none }
  | 69 => some { zv := .nilFunc, size := 1, agg := false, flds := [], fsz := [], arr := none, slc := none, tag := 3, bytes := 8, int := none, mp := none }
  | 70 => some { zv := .nilFunc, size := 1, agg := false, flds := [], fsz := [], arr := none, slc := none, tag := 3, bytes := 8, int := none, mp := none }
  | 72 => some { zv := .nilFunc, size := 1, agg := false, flds := [], fsz := [], arr := none, slc := none, tag := 3, bytes := 8, int := none, mp := none }
  | 74 => some { zv := .nilFunc, size := 1, agg := false, flds := [], fsz := [], arr := none, slc := none, tag := 3, bytes := 8, int := none, mp := none }
  | 75 => some { zv := .nilFunc, size := 1, agg := false, flds := [], fsz := [], arr := none, slc := none, tag := 3, bytes := 8, int := none, mp := none }
  | 76 => some { zv := .nilFunc, size := 1, agg := false, flds := [], fsz := [], arr := none, slc := none, tag := 3, bytes := 8, int := none, mp := none }
  | 77 => some { zv := .nilFunc, size := 1, agg := false, flds := [], fsz := [], arr := none, slc := none, tag := 3, bytes := 8, int := none, mp := none }
  | 78 => some { zv := .nilFunc, size := 1, agg := false, flds := [], fsz := [], arr := none, slc := none, tag := 3, bytes := 8, int := none, mp := none }
  | 79 => some { zv := .nilFunc, size := 1, agg := false, flds := [], fsz := [], arr := none, slc := none, tag := 3, bytes := 8, int := none, mp := none }
  | 80 => some { zv := .nilFunc, size := 1, agg := false, flds := [], fsz := [], arr := none, slc := none, tag := 3, bytes := 8, int := none, mp := none }
  | 81 => some { zv := .nilFunc, size := 1, agg := false, flds := [], fsz := [], arr := none, slc := none, tag := 3, bytes := 8, int := none, mp := none }
  | 82 => some { zv := .nilFunc, size := 1, agg := false, flds := [], fsz := [], arr := none, slc := none, tag := 3, bytes := 8, int := none, mp := none }
  | 83 => some { zv := .nilFunc, size := 1, agg := false, flds := [], fsz := [], arr := none, slc := none, tag := 3, bytes := 8, int := none, mp := none }
  | 84 => some { zv := .nilFunc, size := 1, agg := false, flds := [], fsz := [], arr := none, slc := none, tag := 3, bytes := 8, int := none, mp := none }
  | 85 => some { zv := .int .u64 0, size := 1, agg := false, flds := [], fsz := [], arr := none, slc := none, tag := 0, bytes := 8, int := some .u64, mp := none }
  | 86 => some { zv := .nilFunc, size := 1, agg := false, flds := [], fsz := [], arr := none, slc := none, tag := 3, bytes := 8, int := none, mp := none }
  | 87 => some { zv := .nilFunc, size := 1, agg := false, flds := [], fsz := [], arr := none, slc := none, tag := 3, bytes := 8, int := none, mp := none }
  | 88 => some { zv := .nilFunc, size := 1, agg := false, flds := [], fsz := [], arr := none, slc := none, tag := 3, bytes := 8, int := none, mp := none }
  | 89 => some { zv := .nilFunc, size := 1, agg := false, flds := [], fsz := [], arr := none, slc := none, tag := 3, bytes := 8, int := none, mp := none }
  | 90 => some { zv := .nilFunc, size := 1, agg := false, flds := [], fsz := [], arr := none, slc := none, tag := 3, bytes := 8, int := none, mp := none }
  | 91 => some { zv := .nilFunc, size := 1, agg := false, flds := [], fsz := [], arr := none, slc := none, tag := 3, bytes := 8, int := none, mp := none }
  | 92 => some { zv := .nilFunc, size := 1, agg := false, flds := [], fsz := [], arr := none, slc := none, tag := 3, bytes := 8, int := none, mp := none }
  | 93 => some { zv := .slice none 0 0, size := 1, agg := false, flds := [], fsz := [], arr := none, slc := some (59, 1), tag := 0, bytes := 24, int := none, mp := none }
  | 94 => some { zv := .nilFunc, size := 1, agg := false, flds := [], fsz := [], arr := none, slc := none, tag := 3, bytes := 8, int := none, mp := none }
  | 95 => some { zv := .nilFunc, size := 1, agg := false, flds := [], fsz := [], arr := none, slc := none, tag := 3, bytes := 8, int := none, mp := none }
  | 96 => some { zv := .nilFunc, size := 1, agg := false, flds := [], fsz := [], arr := none, slc := none, tag := 3, bytes := 8, int := none, mp := none }
  | 97 => some { zv := .nilFunc, size := 1, agg := false, flds := [], fsz := [], arr := none, slc := none, tag := 3, bytes := 8, int := none, mp := none }
  | 98 => some { zv := .nilFunc, size := 1, agg := false, flds := [], fsz := [], arr := none, slc := none, tag := 3, bytes := 8, int := none, mp := none }
  | 99 => some { zv := .nilFunc, size := 1, agg := false, flds := [], fsz := [], arr := none, slc := none, tag := 3, bytes := 8, int := none, mp := none }
  | 100 => some { zv := .nilFunc, size := 1, agg := false, flds := [], fsz := [], arr := none, slc := none, tag := 3, bytes := 8, int := none, mp := none }
  | 106 => some { zv := .nilFunc, size := 1, agg := false, flds := [], fsz := [], arr := none, slc := none, tag := 3, bytes := 8, int := none, mp := none }
  | 109 => some { zv := .nilFunc, size := 1, agg := false, flds := [], fsz := [], arr := none, slc := none, tag := 3, bytes := 8, int := none, mp := none }
  | 110 => some { zv := .pointer none, size := 1, agg := false, flds := [], fsz := [], arr := none, slc := none, tag := 0, bytes := 8, int := none, mp := none }
  | _ => none
theorem ent_ok : ∀ T t, ent T = some t → TyOk Try.prog T t := by
  intro T t h
  unfold ent at h
  split at h
  · cases h; exact ty1
  · cases h; exact ty2
  · cases h; exact ty3
  · cases h; exact ty4
  · cases h; exact ty5
  · cases h; exact ty9
  · cases h; exact ty12
  · cases h; exact ty20
  · cases h; exact ty21
  · cases h; exact ty22
  · cases h; exact ty23
  · cases h; exact ty24
  · cases h; exact ty25
  · cases h; exact ty26
  · cases h; exact ty27
  · cases h; exact ty28
  · cases h; exact ty29
  · cases h; exact ty30
  · cases h; exact ty31
  · cases h; exact ty32
  · cases h; exact ty33
  · cases h; exact ty34
  · cases h; exact ty35
  · cases h; exact ty36
  · cases h; exact ty37
  · cases h; exact ty38
  · cases h; exact ty40
  · cases h; exact ty41
  · cases h; exact ty42
  · cases h; exact ty43
  · cases h; exact ty44
  · cases h; exact ty46
  · cases h; exact ty48
  · cases h; exact ty49
  · cases h; exact ty50
  · cases h; exact ty51
  · cases h; exact ty52
  · cases h; exact ty53
  · cases h; exact ty54
  · cases h; exact ty55
  · cases h; exact ty56
  · cases h; exact ty57
  · cases h; exact ty58
  · cases h; exact ty59
  · cases h; exact ty60
  · cases h; exact ty61
  · cases h; exact ty62
  · cases h; exact ty63
  · cases h; exact ty64
  · cases h; exact ty65
  · cases h; exact ty66
  · cases h; exact ty67
  · cases h; exact ty68
  · cases h; exact ty69
  · cases h; exact ty70
  · cases h; exact ty72
  · cases h; exact ty74
  · cases h; exact ty75
  · cases h; exact ty76
  · cases h; exact ty77
  · cases h; exact ty78
  · cases h; exact ty79
  · cases h; exact ty80
  · cases h; exact ty81
  · cases h; exact ty82
  · cases h; exact ty83
  · cases h; exact ty84
  · cases h; exact ty85
  · cases h; exact ty86
  · cases h; exact ty87
  · cases h; exact ty88
  · cases h; exact ty89
  · cases h; exact ty90
  · cases h; exact ty91
  · cases h; exact ty92
  · cases h; exact ty93
  · cases h; exact ty94
  · cases h; exact ty95
  · cases h; exact ty96
  · cases h; exact ty97
  · cases h; exact ty98
  · cases h; exact ty99
  · cases h; exact ty100
  · cases h; exact ty106
  · cases h; exact ty109
  · cases h; exact ty110
  · cases h
theorem eq27 : flatN Try.prog 5 27 = some 2 := by kernel_rfl
theorem eq28 : flatN Try.prog 5 28 = some 2 := by kernel_rfl
theorem eq29 : flatN Try.prog 5 29 = some 3 := by kernel_rfl
theorem eq30 : flatN Try.prog 5 30 = some 5 := by kernel_rfl
theorem eq31 : flatN Try.prog 5 31 = some 5 := by kernel_rfl
theorem eq51 : flatN Try.prog 5 51 = some 2 := by kernel_rfl
theorem eq54 : flatN Try.prog 5 54 = some 2 := by kernel_rfl
theorem eq55 : flatN Try.prog 5 55 = some 2 := by kernel_rfl
theorem eq66 : flatN Try.prog 5 66 = some 8 := by kernel_rfl
theorem eq67 : flatN Try.prog 5 67 = some 8 := by kernel_rfl
def eqs : Nat → Bool
  | 27 => true
  | 28 => true
  | 29 => true
  | 30 => true
  | 31 => true
  | 51 => true
  | 54 => true
  | 55 => true
  | 66 => true
  | 67 => true
  | _ => false
theorem eqs_ok : ∀ T t xs ys r, eqs T = true → ent T = some t → xs.length = t.size → cmpInts xs ys = some r → EqAt Try.prog T (.agg xs.toArray) (.agg ys.toArray) r := by
  intro T t xs ys r h ht hl hc
  unfold eqs at h
  split at h
  · cases ht; exact eqAt_flat eq27 (by decide) (by kernel_rfl) (fun _ => by kernel_rfl) hl hc
  · cases ht; exact eqAt_flat eq28 (by decide) (by kernel_rfl) (fun _ => by kernel_rfl) hl hc
  · cases ht; exact eqAt_flat eq29 (by decide) (by kernel_rfl) (fun _ => by kernel_rfl) hl hc
  · cases ht; exact eqAt_flat eq30 (by decide) (by kernel_rfl) (fun _ => by kernel_rfl) hl hc
  · cases ht; exact eqAt_flat eq31 (by decide) (by kernel_rfl) (fun _ => by kernel_rfl) hl hc
  · cases ht; exact eqAt_flat eq51 (by decide) (by kernel_rfl) (fun _ => by kernel_rfl) hl hc
  · cases ht; exact eqAt_flat eq54 (by decide) (by kernel_rfl) (fun _ => by kernel_rfl) hl hc
  · cases ht; exact eqAt_flat eq55 (by decide) (by kernel_rfl) (fun _ => by kernel_rfl) hl hc
  · cases ht; exact eqAt_flat eq66 (by decide) (by kernel_rfl) (fun _ => by kernel_rfl) hl hc
  · cases ht; exact eqAt_flat eq67 (by decide) (by kernel_rfl) (fun _ => by kernel_rfl) hl hc
  · cases h
noncomputable def C : Ctx := { P := Try.prog, ent := ent, ok := ent_ok, mixed := by kernel_rfl, eqs := eqs, eqok := eqs_ok }
end Go.Proofs.Ytkdfdbjcfhmkaaa
