/- The types of this seat, for the rules: each row a closed fact. Written by gentab2.py. -/
import Derived.Test.YtflmehahkcijcaaWd
import Derived.Test.YtflmehahkcijcaaWf
import Derived.Test.YtflmehahkcijcaaProg
import Derived.KernelRfl
namespace Go.Proofs.Ytflmehahkcijcaa
open Go Go.RowKit
theorem ty1 : TyOk Try.prog 1 { zv := .nilFunc, size := 1, agg := false, flds := [], fsz := [], arr := none, slc := none, tag := 3, bytes := 8, int := none, mp := none } where
  z := fun _ => by kernel_rfl
  s := fun _ => by kernel_rfl
  a := fun _ => by kernel_rfl
  f := fun f off h => by simp at h
  g := fun len es h => by cases h
  c := fun e s h => by cases h
  m := fun x y h => by cases h
  b := fun h => absurd h (by decide)
  r := fun h => absurd h (by decide)
  i := by kernel_rfl
  k := fun k h => by cases h
  q := fun _ => isFunc_of (by kernel_rfl)
  p := fun k e h => by cases h

theorem ty2 : TyOk Try.prog 2 { zv := .int .i64 0, size := 1, agg := false, flds := [], fsz := [], arr := none, slc := none, tag := 0, bytes := 8, int := some .i64, mp := none } where
  z := fun _ => by kernel_rfl
  s := fun _ => by kernel_rfl
  a := fun _ => by kernel_rfl
  f := fun f off h => by simp at h
  g := fun len es h => by cases h
  c := fun e s h => by cases h
  m := fun x y h => by cases h
  b := fun h => absurd h (by decide)
  r := fun h => absurd h (by decide)
  i := by kernel_rfl
  k := fun k h => by cases h; kernel_rfl
  q := fun h => absurd h (by decide)
  p := fun k e h => by cases h

theorem ty3 : TyOk Try.prog 3 { zv := .int .i64 0, size := 1, agg := false, flds := [], fsz := [], arr := none, slc := none, tag := 0, bytes := 8, int := some .i64, mp := none } where
  z := fun _ => by kernel_rfl
  s := fun _ => by kernel_rfl
  a := fun _ => by kernel_rfl
  f := fun f off h => by simp at h
  g := fun len es h => by cases h
  c := fun e s h => by cases h
  m := fun x y h => by cases h
  b := fun h => absurd h (by decide)
  r := fun h => absurd h (by decide)
  i := by kernel_rfl
  k := fun k h => by cases h; kernel_rfl
  q := fun h => absurd h (by decide)
  p := fun k e h => by cases h

theorem ty4 : TyOk Try.prog 4 { zv := .bool false, size := 1, agg := false, flds := [], fsz := [], arr := none, slc := none, tag := 1, bytes := 1, int := none, mp := none } where
  z := fun _ => by kernel_rfl
  s := fun _ => by kernel_rfl
  a := fun _ => by kernel_rfl
  f := fun f off h => by simp at h
  g := fun len es h => by cases h
  c := fun e s h => by cases h
  m := fun x y h => by cases h
  b := fun _ => by kernel_rfl
  r := fun h => absurd h (by decide)
  i := by kernel_rfl
  k := fun k h => by cases h
  q := fun h => absurd h (by decide)
  p := fun k e h => by cases h

theorem ty5 : TyOk Try.prog 5 { zv := .int .u8 0, size := 1, agg := false, flds := [], fsz := [], arr := none, slc := none, tag := 0, bytes := 1, int := some .u8, mp := none } where
  z := fun _ => by kernel_rfl
  s := fun _ => by kernel_rfl
  a := fun _ => by kernel_rfl
  f := fun f off h => by simp at h
  g := fun len es h => by cases h
  c := fun e s h => by cases h
  m := fun x y h => by cases h
  b := fun h => absurd h (by decide)
  r := fun h => absurd h (by decide)
  i := by kernel_rfl
  k := fun k h => by cases h; kernel_rfl
  q := fun h => absurd h (by decide)
  p := fun k e h => by cases h

theorem ty9 : TyOk Try.prog 9 { zv := .string ⟨#[]⟩, size := 1, agg := false, flds := [], fsz := [], arr := none, slc := none, tag := 2, bytes := 16, int := none, mp := none } where
  z := fun _ => by kernel_rfl
  s := fun _ => by kernel_rfl
  a := fun _ => by kernel_rfl
  f := fun f off h => by simp at h
  g := fun len es h => by cases h
  c := fun e s h => by cases h
  m := fun x y h => by cases h
  b := fun h => absurd h (by decide)
  r := fun _ => by kernel_rfl
  i := by kernel_rfl
  k := fun k h => by cases h
  q := fun h => absurd h (by decide)
  p := fun k e h => by cases h

theorem ty12 : TyOk Try.prog 12 { zv := .int .u64 0, size := 1, agg := false, flds := [], fsz := [], arr := none, slc := none, tag := 0, bytes := 8, int := some .u64, mp := none } where
  z := fun _ => by kernel_rfl
  s := fun _ => by kernel_rfl
  a := fun _ => by kernel_rfl
  f := fun f off h => by simp at h
  g := fun len es h => by cases h
  c := fun e s h => by cases h
  m := fun x y h => by cases h
  b := fun h => absurd h (by decide)
  r := fun h => absurd h (by decide)
  i := by kernel_rfl
  k := fun k h => by cases h; kernel_rfl
  q := fun h => absurd h (by decide)
  p := fun k e h => by cases h

theorem ty20 : TyOk Try.prog 20 { zv := .nilIface, size := 1, agg := false, flds := [], fsz := [], arr := none, slc := none, tag := 0, bytes := 16, int := none, mp := none } where
  z := fun _ => by kernel_rfl
  s := fun _ => by kernel_rfl
  a := fun _ => by kernel_rfl
  f := fun f off h => by simp at h
  g := fun len es h => by cases h
  c := fun e s h => by cases h
  m := fun x y h => by cases h
  b := fun h => absurd h (by decide)
  r := fun h => absurd h (by decide)
  i := by kernel_rfl
  k := fun k h => by cases h
  q := fun h => absurd h (by decide)
  p := fun k e h => by cases h

theorem ty21 : TyOk Try.prog 21 { zv := .int .i32 0, size := 1, agg := false, flds := [], fsz := [], arr := none, slc := none, tag := 0, bytes := 4, int := some .i32, mp := none } where
  z := fun _ => by kernel_rfl
  s := fun _ => by kernel_rfl
  a := fun _ => by kernel_rfl
  f := fun f off h => by simp at h
  g := fun len es h => by cases h
  c := fun e s h => by cases h
  m := fun x y h => by cases h
  b := fun h => absurd h (by decide)
  r := fun h => absurd h (by decide)
  i := by kernel_rfl
  k := fun k h => by cases h; kernel_rfl
  q := fun h => absurd h (by decide)
  p := fun k e h => by cases h

theorem ty22 : TyOk Try.prog 22 { zv := .agg #[.int .i64 0, .int .i64 0, .int .i64 0, .int .i64 0], size := 4, agg := true, flds := [0, 1, 2, 3], fsz := [1, 1, 1, 1], arr := none, slc := none, tag := 0, bytes := 32, int := none, mp := none } where
  z := fun _ => by kernel_rfl
  s := fun _ => by kernel_rfl
  a := fun _ => by kernel_rfl
  f := fun f off h => match f, off, h with
      | 0, _, rfl => fun _ _ _ => by kernel_rfl
      | 1, _, rfl => fun _ _ _ => by kernel_rfl
      | 2, _, rfl => fun _ _ _ => by kernel_rfl
      | 3, _, rfl => fun _ _ _ => by kernel_rfl
      | _ + 4, _, h => by simp at h
  g := fun len es h => by cases h
  c := fun e s h => by cases h
  m := fun x y h => ⟨Try.prog.fieldsOf 22, by kernel_rfl, fun _ => by kernel_rfl⟩
  b := fun h => absurd h (by decide)
  r := fun h => absurd h (by decide)
  i := by kernel_rfl
  k := fun k h => by cases h
  q := fun h => absurd h (by decide)
  p := fun k e h => by cases h

theorem ty23 : TyOk Try.prog 23 { zv := .agg #[.int .i64 0, .int .i64 0, .int .i64 0, .int .i64 0], size := 4, agg := true, flds := [0, 1, 2, 3], fsz := [1, 1, 1, 1], arr := none, slc := none, tag := 0, bytes := 32, int := none, mp := none } where
  z := fun _ => by kernel_rfl
  s := fun _ => by kernel_rfl
  a := fun _ => by kernel_rfl
  f := fun f off h => match f, off, h with
      | 0, _, rfl => fun _ _ _ => by kernel_rfl
      | 1, _, rfl => fun _ _ _ => by kernel_rfl
      | 2, _, rfl => fun _ _ _ => by kernel_rfl
      | 3, _, rfl => fun _ _ _ => by kernel_rfl
      | _ + 4, _, h => by simp at h
  g := fun len es h => by cases h
  c := fun e s h => by cases h
  m := fun x y h => ⟨Try.prog.fieldsOf 23, by kernel_rfl, fun _ => by kernel_rfl⟩
  b := fun h => absurd h (by decide)
  r := fun h => absurd h (by decide)
  i := by kernel_rfl
  k := fun k h => by cases h
  q := fun h => absurd h (by decide)
  p := fun k e h => by cases h

theorem ty24 : TyOk Try.prog 24 { zv := .agg #[.int .i64 0, .int .i64 0, .int .i64 0], size := 3, agg := true, flds := [], fsz := [], arr := some (3, 1), slc := none, tag := 0, bytes := 24, int := none, mp := none } where
  z := fun _ => by kernel_rfl
  s := fun _ => by kernel_rfl
  a := fun _ => by kernel_rfl
  f := fun f off h => by simp at h
  g := fun len es h => by cases h; exact ⟨3, by kernel_rfl, fun _ => by kernel_rfl, fun _ _ => by kernel_rfl⟩
  c := fun e s h => by cases h
  m := fun x y h => by cases h
  b := fun h => absurd h (by decide)
  r := fun h => absurd h (by decide)
  i := by kernel_rfl
  k := fun k h => by cases h
  q := fun h => absurd h (by decide)
  p := fun k e h => by cases h

theorem ty25 : TyOk Try.prog 25 { zv := .agg #[.int .i64 0, .int .i64 0, .int .i64 0, .int .i64 0, .int .i64 0], size := 5, agg := true, flds := [0, 1, 2], fsz := [1, 1, 3], arr := none, slc := none, tag := 0, bytes := 40, int := none, mp := none } where
  z := fun _ => by kernel_rfl
  s := fun _ => by kernel_rfl
  a := fun _ => by kernel_rfl
  f := fun f off h => match f, off, h with
      | 0, _, rfl => fun _ _ _ => by kernel_rfl
      | 1, _, rfl => fun _ _ _ => by kernel_rfl
      | 2, _, rfl => fun _ _ _ => by kernel_rfl
      | _ + 3, _, h => by simp at h
  g := fun len es h => by cases h
  c := fun e s h => by cases h
  m := fun x y h => ⟨Try.prog.fieldsOf 25, by kernel_rfl, fun _ => by kernel_rfl⟩
  b := fun h => absurd h (by decide)
  r := fun h => absurd h (by decide)
  i := by kernel_rfl
  k := fun k h => by cases h
  q := fun h => absurd h (by decide)
  p := fun k e h => by cases h

theorem ty26 : TyOk Try.prog 26 { zv := .agg #[.int .i64 0, .int .i64 0, .int .i64 0, .int .i64 0, .int .i64 0], size := 5, agg := true, flds := [0, 1, 2], fsz := [1, 1, 3], arr := none, slc := none, tag := 0, bytes := 40, int := none, mp := none } where
  z := fun _ => by kernel_rfl
  s := fun _ => by kernel_rfl
  a := fun _ => by kernel_rfl
  f := fun f off h => match f, off, h with
      | 0, _, rfl => fun _ _ _ => by kernel_rfl
      | 1, _, rfl => fun _ _ _ => by kernel_rfl
      | 2, _, rfl => fun _ _ _ => by kernel_rfl
      | _ + 3, _, h => by simp at h
  g := fun len es h => by cases h
  c := fun e s h => by cases h
  m := fun x y h => ⟨Try.prog.fieldsOf 26, by kernel_rfl, fun _ => by kernel_rfl⟩
  b := fun h => absurd h (by decide)
  r := fun h => absurd h (by decide)
  i := by kernel_rfl
  k := fun k h => by cases h
  q := fun h => absurd h (by decide)
  p := fun k e h => by cases h

theorem ty27 : TyOk Try.prog 27 { zv := .slice none 0 0, size := 1, agg := false, flds := [], fsz := [], arr := none, slc := some (38, 2), tag := 0, bytes := 24, int := none, mp := none } where
  z := fun _ => by kernel_rfl
  s := fun _ => by kernel_rfl
  a := fun _ => by kernel_rfl
  f := fun f off h => by simp at h
  g := fun len es h => by cases h
  c := fun e s h => by cases h; exact ⟨by kernel_rfl, fun _ => by kernel_rfl⟩
  m := fun x y h => by cases h
  b := fun h => absurd h (by decide)
  r := fun h => absurd h (by decide)
  i := by kernel_rfl
  k := fun k h => by cases h
  q := fun h => absurd h (by decide)
  p := fun k e h => by cases h

theorem ty28 : TyOk Try.prog 28 { zv := .nilFunc, size := 1, agg := false, flds := [], fsz := [], arr := none, slc := none, tag := 3, bytes := 8, int := none, mp := none } where
  z := fun _ => by kernel_rfl
  s := fun _ => by kernel_rfl
  a := fun _ => by kernel_rfl
  f := fun f off h => by simp at h
  g := fun len es h => by cases h
  c := fun e s h => by cases h
  m := fun x y h => by cases h
  b := fun h => absurd h (by decide)
  r := fun h => absurd h (by decide)
  i := by kernel_rfl
  k := fun k h => by cases h
  q := fun _ => isFunc_of (by kernel_rfl)
  p := fun k e h => by cases h

theorem ty29 : TyOk Try.prog 29 { zv := .nilFunc, size := 1, agg := false, flds := [], fsz := [], arr := none, slc := none, tag := 3, bytes := 8, int := none, mp := none } where
  z := fun _ => by kernel_rfl
  s := fun _ => by kernel_rfl
  a := fun _ => by kernel_rfl
  f := fun f off h => by simp at h
  g := fun len es h => by cases h
  c := fun e s h => by cases h
  m := fun x y h => by cases h
  b := fun h => absurd h (by decide)
  r := fun h => absurd h (by decide)
  i := by kernel_rfl
  k := fun k h => by cases h
  q := fun _ => isFunc_of (by kernel_rfl)
  p := fun k e h => by cases h

theorem ty30 : TyOk Try.prog 30 { zv := .nilFunc, size := 1, agg := false, flds := [], fsz := [], arr := none, slc := none, tag := 3, bytes := 8, int := none, mp := none } where
  z := fun _ => by kernel_rfl
  s := fun _ => by kernel_rfl
  a := fun _ => by kernel_rfl
  f := fun f off h => by simp at h
  g := fun len es h => by cases h
  c := fun e s h => by cases h
  m := fun x y h => by cases h
  b := fun h => absurd h (by decide)
  r := fun h => absurd h (by decide)
  i := by kernel_rfl
  k := fun k h => by cases h
  q := fun _ => isFunc_of (by kernel_rfl)
  p := fun k e h => by cases h

theorem ty31 : TyOk Try.prog 31 { zv := .nilFunc, size := 1, agg := false, flds := [], fsz := [], arr := none, slc := none, tag := 3, bytes := 8, int := none, mp := none } where
  z := fun _ => by kernel_rfl
  s := fun _ => by kernel_rfl
  a := fun _ => by kernel_rfl
  f := fun f off h => by simp at h
  g := fun len es h => by cases h
  c := fun e s h => by cases h
  m := fun x y h => by cases h
  b := fun h => absurd h (by decide)
  r := fun h => absurd h (by decide)
  i := by kernel_rfl
  k := fun k h => by cases h
  q := fun _ => isFunc_of (by kernel_rfl)
  p := fun k e h => by cases h

theorem ty33 : TyOk Try.prog 33 { zv := .nilFunc, size := 1, agg := false, flds := [], fsz := [], arr := none, slc := none, tag := 3, bytes := 8, int := none, mp := none } where
  z := fun _ => by kernel_rfl
  s := fun _ => by kernel_rfl
  a := fun _ => by kernel_rfl
  f := fun f off h => by simp at h
  g := fun len es h => by cases h
  c := fun e s h => by cases h
  m := fun x y h => by cases h
  b := fun h => absurd h (by decide)
  r := fun h => absurd h (by decide)
  i := by kernel_rfl
  k := fun k h => by cases h
  q := fun _ => isFunc_of (by kernel_rfl)
  p := fun k e h => by cases h

theorem ty34 : TyOk Try.prog 34 { zv := .nilFunc, size := 1, agg := false, flds := [], fsz := [], arr := none, slc := none, tag := 3, bytes := 8, int := none, mp := none } where
  z := fun _ => by kernel_rfl
  s := fun _ => by kernel_rfl
  a := fun _ => by kernel_rfl
  f := fun f off h => by simp at h
  g := fun len es h => by cases h
  c := fun e s h => by cases h
  m := fun x y h => by cases h
  b := fun h => absurd h (by decide)
  r := fun h => absurd h (by decide)
  i := by kernel_rfl
  k := fun k h => by cases h
  q := fun _ => isFunc_of (by kernel_rfl)
  p := fun k e h => by cases h

theorem ty35 : TyOk Try.prog 35 { zv := .nilFunc, size := 1, agg := false, flds := [], fsz := [], arr := none, slc := none, tag := 3, bytes := 8, int := none, mp := none } where
  z := fun _ => by kernel_rfl
  s := fun _ => by kernel_rfl
  a := fun _ => by kernel_rfl
  f := fun f off h => by simp at h
  g := fun len es h => by cases h
  c := fun e s h => by cases h
  m := fun x y h => by cases h
  b := fun h => absurd h (by decide)
  r := fun h => absurd h (by decide)
  i := by kernel_rfl
  k := fun k h => by cases h
  q := fun _ => isFunc_of (by kernel_rfl)
  p := fun k e h => by cases h

theorem ty36 : TyOk Try.prog 36 { zv := .nilFunc, size := 1, agg := false, flds := [], fsz := [], arr := none, slc := none, tag := 3, bytes := 8, int := none, mp := none } where
  z := fun _ => by kernel_rfl
  s := fun _ => by kernel_rfl
  a := fun _ => by kernel_rfl
  f := fun f off h => by simp at h
  g := fun len es h => by cases h
  c := fun e s h => by cases h
  m := fun x y h => by cases h
  b := fun h => absurd h (by decide)
  r := fun h => absurd h (by decide)
  i := by kernel_rfl
  k := fun k h => by cases h
  q := fun _ => isFunc_of (by kernel_rfl)
  p := fun k e h => by cases h

theorem ty37 : TyOk Try.prog 37 { zv := .agg #[.int .i64 0, .int .i64 0], size := 2, agg := true, flds := [0, 1], fsz := [1, 1], arr := none, slc := none, tag := 0, bytes := 16, int := none, mp := none } where
  z := fun _ => by kernel_rfl
  s := fun _ => by kernel_rfl
  a := fun _ => by kernel_rfl
  f := fun f off h => match f, off, h with
      | 0, _, rfl => fun _ _ _ => by kernel_rfl
      | 1, _, rfl => fun _ _ _ => by kernel_rfl
      | _ + 2, _, h => by simp at h
  g := fun len es h => by cases h
  c := fun e s h => by cases h
  m := fun x y h => ⟨Try.prog.fieldsOf 37, by kernel_rfl, fun _ => by kernel_rfl⟩
  b := fun h => absurd h (by decide)
  r := fun h => absurd h (by decide)
  i := by kernel_rfl
  k := fun k h => by cases h
  q := fun h => absurd h (by decide)
  p := fun k e h => by cases h

theorem ty38 : TyOk Try.prog 38 { zv := .agg #[.int .i64 0, .int .i64 0], size := 2, agg := true, flds := [0, 1], fsz := [1, 1], arr := none, slc := none, tag := 0, bytes := 16, int := none, mp := none } where
  z := fun _ => by kernel_rfl
  s := fun _ => by kernel_rfl
  a := fun _ => by kernel_rfl
  f := fun f off h => match f, off, h with
      | 0, _, rfl => fun _ _ _ => by kernel_rfl
      | 1, _, rfl => fun _ _ _ => by kernel_rfl
      | _ + 2, _, h => by simp at h
  g := fun len es h => by cases h
  c := fun e s h => by cases h
  m := fun x y h => ⟨Try.prog.fieldsOf 38, by kernel_rfl, fun _ => by kernel_rfl⟩
  b := fun h => absurd h (by decide)
  r := fun h => absurd h (by decide)
  i := by kernel_rfl
  k := fun k h => by cases h
  q := fun h => absurd h (by decide)
  p := fun k e h => by cases h

theorem ty39 : TyOk Try.prog 39 { zv := .slice none 0 0, size := 1, agg := false, flds := [], fsz := [], arr := none, slc := some (27, 1), tag := 0, bytes := 24, int := none, mp := none } where
  z := fun _ => by kernel_rfl
  s := fun _ => by kernel_rfl
  a := fun _ => by kernel_rfl
  f := fun f off h => by simp at h
  g := fun len es h => by cases h
  c := fun e s h => by cases h; exact ⟨by kernel_rfl, fun _ => by kernel_rfl⟩
  m := fun x y h => by cases h
  b := fun h => absurd h (by decide)
  r := fun h => absurd h (by decide)
  i := by kernel_rfl
  k := fun k h => by cases h
  q := fun h => absurd h (by decide)
  p := fun k e h => by cases h

theorem ty40 : TyOk Try.prog 40 { zv := .nilFunc, size := 1, agg := false, flds := [], fsz := [], arr := none, slc := none, tag := 3, bytes := 8, int := none, mp := none } where
  z := fun _ => by kernel_rfl
  s := fun _ => by kernel_rfl
  a := fun _ => by kernel_rfl
  f := fun f off h => by simp at h
  g := fun len es h => by cases h
  c := fun e s h => by cases h
  m := fun x y h => by cases h
  b := fun h => absurd h (by decide)
  r := fun h => absurd h (by decide)
  i := by kernel_rfl
  k := fun k h => by cases h
  q := fun _ => isFunc_of (by kernel_rfl)
  p := fun k e h => by cases h

theorem ty41 : TyOk Try.prog 41 { zv := .nilFunc, size := 1, agg := false, flds := [], fsz := [], arr := none, slc := none, tag := 3, bytes := 8, int := none, mp := none } where
  z := fun _ => by kernel_rfl
  s := fun _ => by kernel_rfl
  a := fun _ => by kernel_rfl
  f := fun f off h => by simp at h
  g := fun len es h => by cases h
  c := fun e s h => by cases h
  m := fun x y h => by cases h
  b := fun h => absurd h (by decide)
  r := fun h => absurd h (by decide)
  i := by kernel_rfl
  k := fun k h => by cases h
  q := fun _ => isFunc_of (by kernel_rfl)
  p := fun k e h => by cases h

theorem ty42 : TyOk Try.prog 42 { zv := .nilFunc, size := 1, agg := false, flds := [], fsz := [], arr := none, slc := none, tag := 3, bytes := 8, int := none, mp := none } where
  z := fun _ => by kernel_rfl
  s := fun _ => by kernel_rfl
  a := fun _ => by kernel_rfl
  f := fun f off h => by simp at h
  g := fun len es h => by cases h
  c := fun e s h => by cases h
  m := fun x y h => by cases h
  b := fun h => absurd h (by decide)
  r := fun h => absurd h (by decide)
  i := by kernel_rfl
  k := fun k h => by cases h
  q := fun _ => isFunc_of (by kernel_rfl)
  p := fun k e h => by cases h

theorem ty43 : TyOk Try.prog 43 { zv := .slice none 0 0, size := 1, agg := false, flds := [], fsz := [], arr := none, slc := some (26, 5), tag := 0, bytes := 24, int := none, mp := none } where
  z := fun _ => by kernel_rfl
  s := fun _ => by kernel_rfl
  a := fun _ => by kernel_rfl
  f := fun f off h => by simp at h
  g := fun len es h => by cases h
  c := fun e s h => by cases h; exact ⟨by kernel_rfl, fun _ => by kernel_rfl⟩
  m := fun x y h => by cases h
  b := fun h => absurd h (by decide)
  r := fun h => absurd h (by decide)
  i := by kernel_rfl
  k := fun k h => by cases h
  q := fun h => absurd h (by decide)
  p := fun k e h => by cases h

theorem ty44 : TyOk Try.prog 44 { zv := .nilFunc, size := 1, agg := false, flds := [], fsz := [], arr := none, slc := none, tag := 3, bytes := 8, int := none, mp := none } where
  z := fun _ => by kernel_rfl
  s := fun _ => by kernel_rfl
  a := fun _ => by kernel_rfl
  f := fun f off h => by simp at h
  g := fun len es h => by cases h
  c := fun e s h => by cases h
  m := fun x y h => by cases h
  b := fun h => absurd h (by decide)
  r := fun h => absurd h (by decide)
  i := by kernel_rfl
  k := fun k h => by cases h
  q := fun _ => isFunc_of (by kernel_rfl)
  p := fun k e h => by cases h

theorem ty45 : TyOk Try.prog 45 { zv := .nilFunc, size := 1, agg := false, flds := [], fsz := [], arr := none, slc := none, tag := 3, bytes := 8, int := none, mp := none } where
  z := fun _ => by kernel_rfl
  s := fun _ => by kernel_rfl
  a := fun _ => by kernel_rfl
  f := fun f off h => by simp at h
  g := fun len es h => by cases h
  c := fun e s h => by cases h
  m := fun x y h => by cases h
  b := fun h => absurd h (by decide)
  r := fun h => absurd h (by decide)
  i := by kernel_rfl
  k := fun k h => by cases h
  q := fun _ => isFunc_of (by kernel_rfl)
  p := fun k e h => by cases h

theorem ty46 : TyOk Try.prog 46 { zv := .nilFunc, size := 1, agg := false, flds := [], fsz := [], arr := none, slc := none, tag := 3, bytes := 8, int := none, mp := none } where
  z := fun _ => by kernel_rfl
  s := fun _ => by kernel_rfl
  a := fun _ => by kernel_rfl
  f := fun f off h => by simp at h
  g := fun len es h => by cases h
  c := fun e s h => by cases h
  m := fun x y h => by cases h
  b := fun h => absurd h (by decide)
  r := fun h => absurd h (by decide)
  i := by kernel_rfl
  k := fun k h => by cases h
  q := fun _ => isFunc_of (by kernel_rfl)
  p := fun k e h => by cases h

theorem ty47 : TyOk Try.prog 47 { zv := .nilFunc, size := 1, agg := false, flds := [], fsz := [], arr := none, slc := none, tag := 3, bytes := 8, int := none, mp := none } where
  z := fun _ => by kernel_rfl
  s := fun _ => by kernel_rfl
  a := fun _ => by kernel_rfl
  f := fun f off h => by simp at h
  g := fun len es h => by cases h
  c := fun e s h => by cases h
  m := fun x y h => by cases h
  b := fun h => absurd h (by decide)
  r := fun h => absurd h (by decide)
  i := by kernel_rfl
  k := fun k h => by cases h
  q := fun _ => isFunc_of (by kernel_rfl)
  p := fun k e h => by cases h

theorem ty48 : TyOk Try.prog 48 { zv := .nilFunc, size := 1, agg := false, flds := [], fsz := [], arr := none, slc := none, tag := 3, bytes := 8, int := none, mp := none } where
  z := fun _ => by kernel_rfl
  s := fun _ => by kernel_rfl
  a := fun _ => by kernel_rfl
  f := fun f off h => by simp at h
  g := fun len es h => by cases h
  c := fun e s h => by cases h
  m := fun x y h => by cases h
  b := fun h => absurd h (by decide)
  r := fun h => absurd h (by decide)
  i := by kernel_rfl
  k := fun k h => by cases h
  q := fun _ => isFunc_of (by kernel_rfl)
  p := fun k e h => by cases h

theorem ty49 : TyOk Try.prog 49 { zv := .int .i64 0, size := 1, agg := false, flds := [], fsz := [], arr := none, slc := none, tag := 0, bytes := 8, int := some .i64, mp := none } where
  z := fun _ => by kernel_rfl
  s := fun _ => by kernel_rfl
  a := fun _ => by kernel_rfl
  f := fun f off h => by simp at h
  g := fun len es h => by cases h
  c := fun e s h => by cases h
  m := fun x y h => by cases h
  b := fun h => absurd h (by decide)
  r := fun h => absurd h (by decide)
  i := by kernel_rfl
  k := fun k h => by cases h; kernel_rfl
  q := fun h => absurd h (by decide)
  p := fun k e h => by cases h

theorem ty51 : TyOk Try.prog 51 { zv := .nilFunc, size := 1, agg := false, flds := [], fsz := [], arr := none, slc := none, tag := 3, bytes := 8, int := none, mp := none } where
  z := fun _ => by kernel_rfl
  s := fun _ => by kernel_rfl
  a := fun _ => by kernel_rfl
  f := fun f off h => by simp at h
  g := fun len es h => by cases h
  c := fun e s h => by cases h
  m := fun x y h => by cases h
  b := fun h => absurd h (by decide)
  r := fun h => absurd h (by decide)
  i := by kernel_rfl
  k := fun k h => by cases h
  q := fun _ => isFunc_of (by kernel_rfl)
  p := fun k e h => by cases h

theorem ty52 : TyOk Try.prog 52 { zv := .agg #[.int .i64 0, .int .i64 0, .int .i64 0, .int .i64 0, .int .i64 0, .int .i64 0, .int .i64 0], size := 7, agg := true, flds := [0, 1, 2, 3, 4], fsz := [1, 1, 1, 1, 3], arr := none, slc := none, tag := 0, bytes := 56, int := none, mp := none } where
  z := fun _ => by kernel_rfl
  s := fun _ => by kernel_rfl
  a := fun _ => by kernel_rfl
  f := fun f off h => match f, off, h with
      | 0, _, rfl => fun _ _ _ => by kernel_rfl
      | 1, _, rfl => fun _ _ _ => by kernel_rfl
      | 2, _, rfl => fun _ _ _ => by kernel_rfl
      | 3, _, rfl => fun _ _ _ => by kernel_rfl
      | 4, _, rfl => fun _ _ _ => by kernel_rfl
      | _ + 5, _, h => by simp at h
  g := fun len es h => by cases h
  c := fun e s h => by cases h
  m := fun x y h => ⟨Try.prog.fieldsOf 52, by kernel_rfl, fun _ => by kernel_rfl⟩
  b := fun h => absurd h (by decide)
  r := fun h => absurd h (by decide)
  i := by kernel_rfl
  k := fun k h => by cases h
  q := fun h => absurd h (by decide)
  p := fun k e h => by cases h

theorem ty53 : TyOk Try.prog 53 { zv := .agg #[.int .i64 0, .int .i64 0, .int .i64 0, .int .i64 0, .int .i64 0, .int .i64 0, .int .i64 0], size := 7, agg := true, flds := [0, 1, 2, 3, 4], fsz := [1, 1, 1, 1, 3], arr := none, slc := none, tag := 0, bytes := 56, int := none, mp := none } where
  z := fun _ => by kernel_rfl
  s := fun _ => by kernel_rfl
  a := fun _ => by kernel_rfl
  f := fun f off h => match f, off, h with
      | 0, _, rfl => fun _ _ _ => by kernel_rfl
      | 1, _, rfl => fun _ _ _ => by kernel_rfl
      | 2, _, rfl => fun _ _ _ => by kernel_rfl
      | 3, _, rfl => fun _ _ _ => by kernel_rfl
      | 4, _, rfl => fun _ _ _ => by kernel_rfl
      | _ + 5, _, h => by simp at h
  g := fun len es h => by cases h
  c := fun e s h => by cases h
  m := fun x y h => ⟨Try.prog.fieldsOf 53, by kernel_rfl, fun _ => by kernel_rfl⟩
  b := fun h => absurd h (by decide)
  r := fun h => absurd h (by decide)
  i := by kernel_rfl
  k := fun k h => by cases h
  q := fun h => absurd h (by decide)
  p := fun k e h => by cases h

theorem ty54 : TyOk Try.prog 54 { zv := .nilFunc, size := 1, agg := false, flds := [], fsz := [], arr := none, slc := none, tag := 3, bytes := 8, int := none, mp := none } where
  z := fun _ => by kernel_rfl
  s := fun _ => by kernel_rfl
  a := fun _ => by kernel_rfl
  f := fun f off h => by simp at h
  g := fun len es h => by cases h
  c := fun e s h => by cases h
  m := fun x y h => by cases h
  b := fun h => absurd h (by decide)
  r := fun h => absurd h (by decide)
  i := by kernel_rfl
  k := fun k h => by cases h
  q := fun _ => isFunc_of (by kernel_rfl)
  p := fun k e h => by cases h

theorem ty55 : TyOk Try.prog 55 { zv := .nilFunc, size := 1, agg := false, flds := [], fsz := [], arr := none, slc := none, tag := 3, bytes := 8, int := none, mp := none } where
  z := fun _ => by kernel_rfl
  s := fun _ => by kernel_rfl
  a := fun _ => by kernel_rfl
  f := fun f off h => by simp at h
  g := fun len es h => by cases h
  c := fun e s h => by cases h
  m := fun x y h => by cases h
  b := fun h => absurd h (by decide)
  r := fun h => absurd h (by decide)
  i := by kernel_rfl
  k := fun k h => by cases h
  q := fun _ => isFunc_of (by kernel_rfl)
  p := fun k e h => by cases h

theorem ty56 : TyOk Try.prog 56 { zv := .nilFunc, size := 1, agg := false, flds := [], fsz := [], arr := none, slc := none, tag := 3, bytes := 8, int := none, mp := none } where
  z := fun _ => by kernel_rfl
  s := fun _ => by kernel_rfl
  a := fun _ => by kernel_rfl
  f := fun f off h => by simp at h
  g := fun len es h => by cases h
  c := fun e s h => by cases h
  m := fun x y h => by cases h
  b := fun h => absurd h (by decide)
  r := fun h => absurd h (by decide)
  i := by kernel_rfl
  k := fun k h => by cases h
  q := fun _ => isFunc_of (by kernel_rfl)
  p := fun k e h => by cases h

theorem ty57 : TyOk Try.prog 57 { zv := .nilFunc, size := 1, agg := false, flds := [], fsz := [], arr := none, slc := none, tag := 3, bytes := 8, int := none, mp := none } where
  z := fun _ => by kernel_rfl
  s := fun _ => by kernel_rfl
  a := fun _ => by kernel_rfl
  f := fun f off h => by simp at h
  g := fun len es h => by cases h
  c := fun e s h => by cases h
  m := fun x y h => by cases h
  b := fun h => absurd h (by decide)
  r := fun h => absurd h (by decide)
  i := by kernel_rfl
  k := fun k h => by cases h
  q := fun _ => isFunc_of (by kernel_rfl)
  p := fun k e h => by cases h

theorem ty58 : TyOk Try.prog 58 { zv := .nilFunc, size := 1, agg := false, flds := [], fsz := [], arr := none, slc := none, tag := 3, bytes := 8, int := none, mp := none } where
  z := fun _ => by kernel_rfl
  s := fun _ => by kernel_rfl
  a := fun _ => by kernel_rfl
  f := fun f off h => by simp at h
  g := fun len es h => by cases h
  c := fun e s h => by cases h
  m := fun x y h => by cases h
  b := fun h => absurd h (by decide)
  r := fun h => absurd h (by decide)
  i := by kernel_rfl
  k := fun k h => by cases h
  q := fun _ => isFunc_of (by kernel_rfl)
  p := fun k e h => by cases h

theorem ty59 : TyOk Try.prog 59 { zv := .nilFunc, size := 1, agg := false, flds := [], fsz := [], arr := none, slc := none, tag := 3, bytes := 8, int := none, mp := none } where
  z := fun _ => by kernel_rfl
  s := fun _ => by kernel_rfl
  a := fun _ => by kernel_rfl
  f := fun f off h => by simp at h
  g := fun len es h => by cases h
  c := fun e s h => by cases h
  m := fun x y h => by cases h
  b := fun h => absurd h (by decide)
  r := fun h => absurd h (by decide)
  i := by kernel_rfl
  k := fun k h => by cases h
  q := fun _ => isFunc_of (by kernel_rfl)
  p := fun k e h => by cases h

theorem ty60 : TyOk Try.prog 60 { zv := .nilFunc, size := 1, agg := false, flds := [], fsz := [], arr := none, slc := none, tag := 3, bytes := 8, int := none, mp := none } where
  z := fun _ => by kernel_rfl
  s := fun _ => by kernel_rfl
  a := fun _ => by kernel_rfl
  f := fun f off h => by simp at h
  g := fun len es h => by cases h
  c := fun e s h => by cases h
  m := fun x y h => by cases h
  b := fun h => absurd h (by decide)
  r := fun h => absurd h (by decide)
  i := by kernel_rfl
  k := fun k h => by cases h
  q := fun _ => isFunc_of (by kernel_rfl)
  p := fun k e h => by cases h

theorem ty61 : TyOk Try.prog 61 { zv := .slice none 0 0, size := 1, agg := false, flds := [], fsz := [], arr := none, slc := some (3, 1), tag := 0, bytes := 24, int := none, mp := none } where
  z := fun _ => by kernel_rfl
  s := fun _ => by kernel_rfl
  a := fun _ => by kernel_rfl
  f := fun f off h => by simp at h
  g := fun len es h => by cases h
  c := fun e s h => by cases h; exact ⟨by kernel_rfl, fun _ => by kernel_rfl⟩
  m := fun x y h => by cases h
  b := fun h => absurd h (by decide)
  r := fun h => absurd h (by decide)
  i := by kernel_rfl
  k := fun k h => by cases h
  q := fun h => absurd h (by decide)
  p := fun k e h => by cases h

theorem ty62 : TyOk Try.prog 62 { zv := .nilFunc, size := 1, agg := false, flds := [], fsz := [], arr := none, slc := none, tag := 3, bytes := 8, int := none, mp := none } where
  z := fun _ => by kernel_rfl
  s := fun _ => by kernel_rfl
  a := fun _ => by kernel_rfl
  f := fun f off h => by simp at h
  g := fun len es h => by cases h
  c := fun e s h => by cases h
  m := fun x y h => by cases h
  b := fun h => absurd h (by decide)
  r := fun h => absurd h (by decide)
  i := by kernel_rfl
  k := fun k h => by cases h
  q := fun _ => isFunc_of (by kernel_rfl)
  p := fun k e h => by cases h

theorem ty63 : TyOk Try.prog 63 { zv := .nilFunc, size := 1, agg := false, flds := [], fsz := [], arr := none, slc := none, tag := 3, bytes := 8, int := none, mp := none } where
  z := fun _ => by kernel_rfl
  s := fun _ => by kernel_rfl
  a := fun _ => by kernel_rfl
  f := fun f off h => by simp at h
  g := fun len es h => by cases h
  c := fun e s h => by cases h
  m := fun x y h => by cases h
  b := fun h => absurd h (by decide)
  r := fun h => absurd h (by decide)
  i := by kernel_rfl
  k := fun k h => by cases h
  q := fun _ => isFunc_of (by kernel_rfl)
  p := fun k e h => by cases h

theorem ty64 : TyOk Try.prog 64 { zv := .nilFunc, size := 1, agg := false, flds := [], fsz := [], arr := none, slc := none, tag := 3, bytes := 8, int := none, mp := none } where
  z := fun _ => by kernel_rfl
  s := fun _ => by kernel_rfl
  a := fun _ => by kernel_rfl
  f := fun f off h => by simp at h
  g := fun len es h => by cases h
  c := fun e s h => by cases h
  m := fun x y h => by cases h
  b := fun h => absurd h (by decide)
  r := fun h => absurd h (by decide)
  i := by kernel_rfl
  k := fun k h => by cases h
  q := fun _ => isFunc_of (by kernel_rfl)
  p := fun k e h => by cases h

theorem ty65 : TyOk Try.prog 65 { zv := .nilFunc, size := 1, agg := false, flds := [], fsz := [], arr := none, slc := none, tag := 3, bytes := 8, int := none, mp := none } where
  z := fun _ => by kernel_rfl
  s := fun _ => by kernel_rfl
  a := fun _ => by kernel_rfl
  f := fun f off h => by simp at h
  g := fun len es h => by cases h
  c := fun e s h => by cases h
  m := fun x y h => by cases h
  b := fun h => absurd h (by decide)
  r := fun h => absurd h (by decide)
  i := by kernel_rfl
  k := fun k h => by cases h
  q := fun _ => isFunc_of (by kernel_rfl)
  p := fun k e h => by cases h

theorem ty67 : TyOk Try.prog 67 { zv := .nilFunc, size := 1, agg := false, flds := [], fsz := [], arr := none, slc := none, tag := 3, bytes := 8, int := none, mp := none } where
  z := fun _ => by kernel_rfl
  s := fun _ => by kernel_rfl
  a := fun _ => by kernel_rfl
  f := fun f off h => by simp at h
  g := fun len es h => by cases h
  c := fun e s h => by cases h
  m := fun x y h => by cases h
  b := fun h => absurd h (by decide)
  r := fun h => absurd h (by decide)
  i := by kernel_rfl
  k := fun k h => by cases h
  q := fun _ => isFunc_of (by kernel_rfl)
  p := fun k e h => by cases h

theorem ty68 : TyOk Try.prog 68 { zv := .nilFunc, size := 1, agg := false, flds := [], fsz := [], arr := none, slc := none, tag := 3, bytes := 8, int := none, mp := none } where
  z := fun _ => by kernel_rfl
  s := fun _ => by kernel_rfl
  a := fun _ => by kernel_rfl
  f := fun f off h => by simp at h
  g := fun len es h => by cases h
  c := fun e s h => by cases h
  m := fun x y h => by cases h
  b := fun h => absurd h (by decide)
  r := fun h => absurd h (by decide)
  i := by kernel_rfl
  k := fun k h => by cases h
  q := fun _ => isFunc_of (by kernel_rfl)
  p := fun k e h => by cases h

theorem ty69 : TyOk Try.prog 69 { zv := .nilFunc, size := 1, agg := false, flds := [], fsz := [], arr := none, slc := none, tag := 3, bytes := 8, int := none, mp := none } where
  z := fun _ => by kernel_rfl
  s := fun _ => by kernel_rfl
  a := fun _ => by kernel_rfl
  f := fun f off h => by simp at h
  g := fun len es h => by cases h
  c := fun e s h => by cases h
  m := fun x y h => by cases h
  b := fun h => absurd h (by decide)
  r := fun h => absurd h (by decide)
  i := by kernel_rfl
  k := fun k h => by cases h
  q := fun _ => isFunc_of (by kernel_rfl)
  p := fun k e h => by cases h

theorem ty70 : TyOk Try.prog 70 { zv := .nilFunc, size := 1, agg := false, flds := [], fsz := [], arr := none, slc := none, tag := 3, bytes := 8, int := none, mp := none } where
  z := fun _ => by kernel_rfl
  s := fun _ => by kernel_rfl
  a := fun _ => by kernel_rfl
  f := fun f off h => by simp at h
  g := fun len es h => by cases h
  c := fun e s h => by cases h
  m := fun x y h => by cases h
  b := fun h => absurd h (by decide)
  r := fun h => absurd h (by decide)
  i := by kernel_rfl
  k := fun k h => by cases h
  q := fun _ => isFunc_of (by kernel_rfl)
  p := fun k e h => by cases h

theorem ty71 : TyOk Try.prog 71 { zv := .nilFunc, size := 1, agg := false, flds := [], fsz := [], arr := none, slc := none, tag := 3, bytes := 8, int := none, mp := none } where
  z := fun _ => by kernel_rfl
  s := fun _ => by kernel_rfl
  a := fun _ => by kernel_rfl
  f := fun f off h => by simp at h
  g := fun len es h => by cases h
  c := fun e s h => by cases h
  m := fun x y h => by cases h
  b := fun h => absurd h (by decide)
  r := fun h => absurd h (by decide)
  i := by kernel_rfl
  k := fun k h => by cases h
  q := fun _ => isFunc_of (by kernel_rfl)
  p := fun k e h => by cases h

theorem ty72 : TyOk Try.prog 72 { zv := .nilFunc, size := 1, agg := false, flds := [], fsz := [], arr := none, slc := none, tag := 3, bytes := 8, int := none, mp := none } where
  z := fun _ => by kernel_rfl
  s := fun _ => by kernel_rfl
  a := fun _ => by kernel_rfl
  f := fun f off h => by simp at h
  g := fun len es h => by cases h
  c := fun e s h => by cases h
  m := fun x y h => by cases h
  b := fun h => absurd h (by decide)
  r := fun h => absurd h (by decide)
  i := by kernel_rfl
  k := fun k h => by cases h
  q := fun _ => isFunc_of (by kernel_rfl)
  p := fun k e h => by cases h

theorem ty73 : TyOk Try.prog 73 { zv := .nilFunc, size := 1, agg := false, flds := [], fsz := [], arr := none, slc := none, tag := 3, bytes := 8, int := none, mp := none } where
  z := fun _ => by kernel_rfl
  s := fun _ => by kernel_rfl
  a := fun _ => by kernel_rfl
  f := fun f off h => by simp at h
  g := fun len es h => by cases h
  c := fun e s h => by cases h
  m := fun x y h => by cases h
  b := fun h => absurd h (by decide)
  r := fun h => absurd h (by decide)
  i := by kernel_rfl
  k := fun k h => by cases h
  q := fun _ => isFunc_of (by kernel_rfl)
  p := fun k e h => by cases h

theorem ty74 : TyOk Try.prog 74 { zv := .nilFunc, size := 1, agg := false, flds := [], fsz := [], arr := none, slc := none, tag := 3, bytes := 8, int := none, mp := none } where
  z := fun _ => by kernel_rfl
  s := fun _ => by kernel_rfl
  a := fun _ => by kernel_rfl
  f := fun f off h => by simp at h
  g := fun len es h => by cases h
  c := fun e s h => by cases h
  m := fun x y h => by cases h
  b := fun h => absurd h (by decide)
  r := fun h => absurd h (by decide)
  i := by kernel_rfl
  k := fun k h => by cases h
  q := fun _ => isFunc_of (by kernel_rfl)
  p := fun k e h => by cases h

theorem ty75 : TyOk Try.prog 75 { zv := .agg #[.nilFunc, .nilFunc], size := 2, agg := true, flds := [0, 1], fsz := [1, 1], arr := none, slc := none, tag := 0, bytes := 16, int := none, mp := none } where
  z := fun _ => by kernel_rfl
  s := fun _ => by kernel_rfl
  a := fun _ => by kernel_rfl
  f := fun f off h => match f, off, h with
      | 0, _, rfl => fun _ _ _ => by kernel_rfl
      | 1, _, rfl => fun _ _ _ => by kernel_rfl
      | _ + 2, _, h => by simp at h
  g := fun len es h => by cases h
  c := fun e s h => by cases h
  m := fun x y h => ⟨Try.prog.fieldsOf 75, by kernel_rfl, fun _ => by kernel_rfl⟩
  b := fun h => absurd h (by decide)
  r := fun h => absurd h (by decide)
  i := by kernel_rfl
  k := fun k h => by cases h
  q := fun h => absurd h (by decide)
  p := fun k e h => by cases h

theorem ty76 : TyOk Try.prog 76 { zv := .agg #[.nilFunc, .nilFunc], size := 2, agg := true, flds := [0, 1], fsz := [1, 1], arr := none, slc := none, tag := 0, bytes := 16, int := none, mp := none } where
  z := fun _ => by kernel_rfl
  s := fun _ => by kernel_rfl
  a := fun _ => by kernel_rfl
  f := fun f off h => match f, off, h with
      | 0, _, rfl => fun _ _ _ => by kernel_rfl
      | 1, _, rfl => fun _ _ _ => by kernel_rfl
      | _ + 2, _, h => by simp at h
  g := fun len es h => by cases h
  c := fun e s h => by cases h
  m := fun x y h => ⟨Try.prog.fieldsOf 76, by kernel_rfl, fun _ => by kernel_rfl⟩
  b := fun h => absurd h (by decide)
  r := fun h => absurd h (by decide)
  i := by kernel_rfl
  k := fun k h => by cases h
  q := fun h => absurd h (by decide)
  p := fun k e h => by cases h

theorem ty77 : TyOk Try.prog 77 { zv := .nilFunc, size := 1, agg := false, flds := [], fsz := [], arr := none, slc := none, tag := 3, bytes := 8, int := none, mp := none } where
  z := fun _ => by kernel_rfl
  s := fun _ => by kernel_rfl
  a := fun _ => by kernel_rfl
  f := fun f off h => by simp at h
  g := fun len es h => by cases h
  c := fun e s h => by cases h
  m := fun x y h => by cases h
  b := fun h => absurd h (by decide)
  r := fun h => absurd h (by decide)
  i := by kernel_rfl
  k := fun k h => by cases h
  q := fun _ => isFunc_of (by kernel_rfl)
  p := fun k e h => by cases h

theorem ty78 : TyOk Try.prog 78 { zv := .map none, size := 1, agg := false, flds := [], fsz := [], arr := none, slc := none, tag := 0, bytes := 8, int := none, mp := some (3, 3) } where
  z := fun _ => by kernel_rfl
  s := fun _ => by kernel_rfl
  a := fun _ => by kernel_rfl
  f := fun f off h => by simp at h
  g := fun len es h => by cases h
  c := fun e s h => by cases h
  m := fun x y h => by cases h
  b := fun h => absurd h (by decide)
  r := fun h => absurd h (by decide)
  i := by kernel_rfl
  k := fun k h => by cases h
  q := fun h => absurd h (by decide)
  p := fun k e h => by cases h; kernel_rfl

theorem ty80 : TyOk Try.prog 80 { zv := .nilFunc, size := 1, agg := false, flds := [], fsz := [], arr := none, slc := none, tag := 3, bytes := 8, int := none, mp := none } where
  z := fun _ => by kernel_rfl
  s := fun _ => by kernel_rfl
  a := fun _ => by kernel_rfl
  f := fun f off h => by simp at h
  g := fun len es h => by cases h
  c := fun e s h => by cases h
  m := fun x y h => by cases h
  b := fun h => absurd h (by decide)
  r := fun h => absurd h (by decide)
  i := by kernel_rfl
  k := fun k h => by cases h
  q := fun _ => isFunc_of (by kernel_rfl)
  p := fun k e h => by cases h

theorem ty81 : TyOk Try.prog 81 { zv := .nilFunc, size := 1, agg := false, flds := [], fsz := [], arr := none, slc := none, tag := 3, bytes := 8, int := none, mp := none } where
  z := fun _ => by kernel_rfl
  s := fun _ => by kernel_rfl
  a := fun _ => by kernel_rfl
  f := fun f off h => by simp at h
  g := fun len es h => by cases h
  c := fun e s h => by cases h
  m := fun x y h => by cases h
  b := fun h => absurd h (by decide)
  r := fun h => absurd h (by decide)
  i := by kernel_rfl
  k := fun k h => by cases h
  q := fun _ => isFunc_of (by kernel_rfl)
  p := fun k e h => by cases h

theorem ty82 : TyOk Try.prog 82 { zv := .nilFunc, size := 1, agg := false, flds := [], fsz := [], arr := none, slc := none, tag := 3, bytes := 8, int := none, mp := none } where
  z := fun _ => by kernel_rfl
  s := fun _ => by kernel_rfl
  a := fun _ => by kernel_rfl
  f := fun f off h => by simp at h
  g := fun len es h => by cases h
  c := fun e s h => by cases h
  m := fun x y h => by cases h
  b := fun h => absurd h (by decide)
  r := fun h => absurd h (by decide)
  i := by kernel_rfl
  k := fun k h => by cases h
  q := fun _ => isFunc_of (by kernel_rfl)
  p := fun k e h => by cases h

theorem ty83 : TyOk Try.prog 83 { zv := .nilFunc, size := 1, agg := false, flds := [], fsz := [], arr := none, slc := none, tag := 3, bytes := 8, int := none, mp := none } where
  z := fun _ => by kernel_rfl
  s := fun _ => by kernel_rfl
  a := fun _ => by kernel_rfl
  f := fun f off h => by simp at h
  g := fun len es h => by cases h
  c := fun e s h => by cases h
  m := fun x y h => by cases h
  b := fun h => absurd h (by decide)
  r := fun h => absurd h (by decide)
  i := by kernel_rfl
  k := fun k h => by cases h
  q := fun _ => isFunc_of (by kernel_rfl)
  p := fun k e h => by cases h

theorem ty84 : TyOk Try.prog 84 { zv := .nilFunc, size := 1, agg := false, flds := [], fsz := [], arr := none, slc := none, tag := 3, bytes := 8, int := none, mp := none } where
  z := fun _ => by kernel_rfl
  s := fun _ => by kernel_rfl
  a := fun _ => by kernel_rfl
  f := fun f off h => by simp at h
  g := fun len es h => by cases h
  c := fun e s h => by cases h
  m := fun x y h => by cases h
  b := fun h => absurd h (by decide)
  r := fun h => absurd h (by decide)
  i := by kernel_rfl
  k := fun k h => by cases h
  q := fun _ => isFunc_of (by kernel_rfl)
  p := fun k e h => by cases h

theorem ty85 : TyOk Try.prog 85 { zv := .nilFunc, size := 1, agg := false, flds := [], fsz := [], arr := none, slc := none, tag := 3, bytes := 8, int := none, mp := none } where
  z := fun _ => by kernel_rfl
  s := fun _ => by kernel_rfl
  a := fun _ => by kernel_rfl
  f := fun f off h => by simp at h
  g := fun len es h => by cases h
  c := fun e s h => by cases h
  m := fun x y h => by cases h
  b := fun h => absurd h (by decide)
  r := fun h => absurd h (by decide)
  i := by kernel_rfl
  k := fun k h => by cases h
  q := fun _ => isFunc_of (by kernel_rfl)
  p := fun k e h => by cases h

theorem ty86 : TyOk Try.prog 86 { zv := .nilFunc, size := 1, agg := false, flds := [], fsz := [], arr := none, slc := none, tag := 3, bytes := 8, int := none, mp := none } where
  z := fun _ => by kernel_rfl
  s := fun _ => by kernel_rfl
  a := fun _ => by kernel_rfl
  f := fun f off h => by simp at h
  g := fun len es h => by cases h
  c := fun e s h => by cases h
  m := fun x y h => by cases h
  b := fun h => absurd h (by decide)
  r := fun h => absurd h (by decide)
  i := by kernel_rfl
  k := fun k h => by cases h
  q := fun _ => isFunc_of (by kernel_rfl)
  p := fun k e h => by cases h

theorem ty87 : TyOk Try.prog 87 { zv := .nilFunc, size := 1, agg := false, flds := [], fsz := [], arr := none, slc := none, tag := 3, bytes := 8, int := none, mp := none } where
  z := fun _ => by kernel_rfl
  s := fun _ => by kernel_rfl
  a := fun _ => by kernel_rfl
  f := fun f off h => by simp at h
  g := fun len es h => by cases h
  c := fun e s h => by cases h
  m := fun x y h => by cases h
  b := fun h => absurd h (by decide)
  r := fun h => absurd h (by decide)
  i := by kernel_rfl
  k := fun k h => by cases h
  q := fun _ => isFunc_of (by kernel_rfl)
  p := fun k e h => by cases h

theorem ty88 : TyOk Try.prog 88 { zv := .nilFunc, size := 1, agg := false, flds := [], fsz := [], arr := none, slc := none, tag := 3, bytes := 8, int := none, mp := none } where
  z := fun _ => by kernel_rfl
  s := fun _ => by kernel_rfl
  a := fun _ => by kernel_rfl
  f := fun f off h => by simp at h
  g := fun len es h => by cases h
  c := fun e s h => by cases h
  m := fun x y h => by cases h
  b := fun h => absurd h (by decide)
  r := fun h => absurd h (by decide)
  i := by kernel_rfl
  k := fun k h => by cases h
  q := fun _ => isFunc_of (by kernel_rfl)
  p := fun k e h => by cases h

theorem ty89 : TyOk Try.prog 89 { zv := .nilFunc, size := 1, agg := false, flds := [], fsz := [], arr := none, slc := none, tag := 3, bytes := 8, int := none, mp := none } where
  z := fun _ => by kernel_rfl
  s := fun _ => by kernel_rfl
  a := fun _ => by kernel_rfl
  f := fun f off h => by simp at h
  g := fun len es h => by cases h
  c := fun e s h => by cases h
  m := fun x y h => by cases h
  b := fun h => absurd h (by decide)
  r := fun h => absurd h (by decide)
  i := by kernel_rfl
  k := fun k h => by cases h
  q := fun _ => isFunc_of (by kernel_rfl)
  p := fun k e h => by cases h

theorem ty90 : TyOk Try.prog 90 { zv := .nilFunc, size := 1, agg := false, flds := [], fsz := [], arr := none, slc := none, tag := 3, bytes := 8, int := none, mp := none } where
  z := fun _ => by kernel_rfl
  s := fun _ => by kernel_rfl
  a := fun _ => by kernel_rfl
  f := fun f off h => by simp at h
  g := fun len es h => by cases h
  c := fun e s h => by cases h
  m := fun x y h => by cases h
  b := fun h => absurd h (by decide)
  r := fun h => absurd h (by decide)
  i := by kernel_rfl
  k := fun k h => by cases h
  q := fun _ => isFunc_of (by kernel_rfl)
  p := fun k e h => by cases h

theorem ty91 : TyOk Try.prog 91 { zv := .nilFunc, size := 1, agg := false, flds := [], fsz := [], arr := none, slc := none, tag := 3, bytes := 8, int := none, mp := none } where
  z := fun _ => by kernel_rfl
  s := fun _ => by kernel_rfl
  a := fun _ => by kernel_rfl
  f := fun f off h => by simp at h
  g := fun len es h => by cases h
  c := fun e s h => by cases h
  m := fun x y h => by cases h
  b := fun h => absurd h (by decide)
  r := fun h => absurd h (by decide)
  i := by kernel_rfl
  k := fun k h => by cases h
  q := fun _ => isFunc_of (by kernel_rfl)
  p := fun k e h => by cases h

theorem ty92 : TyOk Try.prog 92 { zv := .nilFunc, size := 1, agg := false, flds := [], fsz := [], arr := none, slc := none, tag := 3, bytes := 8, int := none, mp := none } where
  z := fun _ => by kernel_rfl
  s := fun _ => by kernel_rfl
  a := fun _ => by kernel_rfl
  f := fun f off h => by simp at h
  g := fun len es h => by cases h
  c := fun e s h => by cases h
  m := fun x y h => by cases h
  b := fun h => absurd h (by decide)
  r := fun h => absurd h (by decide)
  i := by kernel_rfl
  k := fun k h => by cases h
  q := fun _ => isFunc_of (by kernel_rfl)
  p := fun k e h => by cases h

theorem ty93 : TyOk Try.prog 93 { zv := .nilFunc, size := 1, agg := false, flds := [], fsz := [], arr := none, slc := none, tag := 3, bytes := 8, int := none, mp := none } where
  z := fun _ => by kernel_rfl
  s := fun _ => by kernel_rfl
  a := fun _ => by kernel_rfl
  f := fun f off h => by simp at h
  g := fun len es h => by cases h
  c := fun e s h => by cases h
  m := fun x y h => by cases h
  b := fun h => absurd h (by decide)
  r := fun h => absurd h (by decide)
  i := by kernel_rfl
  k := fun k h => by cases h
  q := fun _ => isFunc_of (by kernel_rfl)
  p := fun k e h => by cases h

theorem ty94 : TyOk Try.prog 94 { zv := .nilFunc, size := 1, agg := false, flds := [], fsz := [], arr := none, slc := none, tag := 3, bytes := 8, int := none, mp := none } where
  z := fun _ => by kernel_rfl
  s := fun _ => by kernel_rfl
  a := fun _ => by kernel_rfl
  f := fun f off h => by simp at h
  g := fun len es h => by cases h
  c := fun e s h => by cases h
  m := fun x y h => by cases h
  b := fun h => absurd h (by decide)
  r := fun h => absurd h (by decide)
  i := by kernel_rfl
  k := fun k h => by cases h
  q := fun _ => isFunc_of (by kernel_rfl)
  p := fun k e h => by cases h

theorem ty95 : TyOk Try.prog 95 { zv := .nilFunc, size := 1, agg := false, flds := [], fsz := [], arr := none, slc := none, tag := 3, bytes := 8, int := none, mp := none } where
  z := fun _ => by kernel_rfl
  s := fun _ => by kernel_rfl
  a := fun _ => by kernel_rfl
  f := fun f off h => by simp at h
  g := fun len es h => by cases h
  c := fun e s h => by cases h
  m := fun x y h => by cases h
  b := fun h => absurd h (by decide)
  r := fun h => absurd h (by decide)
  i := by kernel_rfl
  k := fun k h => by cases h
  q := fun _ => isFunc_of (by kernel_rfl)
  p := fun k e h => by cases h

theorem ty96 : TyOk Try.prog 96 { zv := .nilFunc, size := 1, agg := false, flds := [], fsz := [], arr := none, slc := none, tag := 3, bytes := 8, int := none, mp := none } where
  z := fun _ => by kernel_rfl
  s := fun _ => by kernel_rfl
  a := fun _ => by kernel_rfl
  f := fun f off h => by simp at h
  g := fun len es h => by cases h
  c := fun e s h => by cases h
  m := fun x y h => by cases h
  b := fun h => absurd h (by decide)
  r := fun h => absurd h (by decide)
  i := by kernel_rfl
  k := fun k h => by cases h
  q := fun _ => isFunc_of (by kernel_rfl)
  p := fun k e h => by cases h

theorem ty97 : TyOk Try.prog 97 { zv := .nilFunc, size := 1, agg := false, flds := [], fsz := [], arr := none, slc := none, tag := 3, bytes := 8, int := none, mp := none } where
  z := fun _ => by kernel_rfl
  s := fun _ => by kernel_rfl
  a := fun _ => by kernel_rfl
  f := fun f off h => by simp at h
  g := fun len es h => by cases h
  c := fun e s h => by cases h
  m := fun x y h => by cases h
  b := fun h => absurd h (by decide)
  r := fun h => absurd h (by decide)
  i := by kernel_rfl
  k := fun k h => by cases h
  q := fun _ => isFunc_of (by kernel_rfl)
  p := fun k e h => by cases h

theorem ty98 : TyOk Try.prog 98 { zv := .int .u64 0, size := 1, agg := false, flds := [], fsz := [], arr := none, slc := none, tag := 0, bytes := 8, int := some .u64, mp := none } where
  z := fun _ => by kernel_rfl
  s := fun _ => by kernel_rfl
  a := fun _ => by kernel_rfl
  f := fun f off h => by simp at h
  g := fun len es h => by cases h
  c := fun e s h => by cases h
  m := fun x y h => by cases h
  b := fun h => absurd h (by decide)
  r := fun h => absurd h (by decide)
  i := by kernel_rfl
  k := fun k h => by cases h; kernel_rfl
  q := fun h => absurd h (by decide)
  p := fun k e h => by cases h

theorem ty99 : TyOk Try.prog 99 { zv := .nilFunc, size := 1, agg := false, flds := [], fsz := [], arr := none, slc := none, tag := 3, bytes := 8, int := none, mp := none } where
  z := fun _ => by kernel_rfl
  s := fun _ => by kernel_rfl
  a := fun _ => by kernel_rfl
  f := fun f off h => by simp at h
  g := fun len es h => by cases h
  c := fun e s h => by cases h
  m := fun x y h => by cases h
  b := fun h => absurd h (by decide)
  r := fun h => absurd h (by decide)
  i := by kernel_rfl
  k := fun k h => by cases h
  q := fun _ => isFunc_of (by kernel_rfl)
  p := fun k e h => by cases h

theorem ty100 : TyOk Try.prog 100 { zv := .int .i64 0, size := 1, agg := false, flds := [], fsz := [], arr := none, slc := none, tag := 0, bytes := 8, int := some .i64, mp := none } where
  z := fun _ => by kernel_rfl
  s := fun _ => by kernel_rfl
  a := fun _ => by kernel_rfl
  f := fun f off h => by simp at h
  g := fun len es h => by cases h
  c := fun e s h => by cases h
  m := fun x y h => by cases h
  b := fun h => absurd h (by decide)
  r := fun h => absurd h (by decide)
  i := by kernel_rfl
  k := fun k h => by cases h; kernel_rfl
  q := fun h => absurd h (by decide)
  p := fun k e h => by cases h

theorem ty102 : TyOk Try.prog 102 { zv := .nilFunc, size := 1, agg := false, flds := [], fsz := [], arr := none, slc := none, tag := 3, bytes := 8, int := none, mp := none } where
  z := fun _ => by kernel_rfl
  s := fun _ => by kernel_rfl
  a := fun _ => by kernel_rfl
  f := fun f off h => by simp at h
  g := fun len es h => by cases h
  c := fun e s h => by cases h
  m := fun x y h => by cases h
  b := fun h => absurd h (by decide)
  r := fun h => absurd h (by decide)
  i := by kernel_rfl
  k := fun k h => by cases h
  q := fun _ => isFunc_of (by kernel_rfl)
  p := fun k e h => by cases h

theorem ty103 : TyOk Try.prog 103 { zv := .nilFunc, size := 1, agg := false, flds := [], fsz := [], arr := none, slc := none, tag := 3, bytes := 8, int := none, mp := none } where
  z := fun _ => by kernel_rfl
  s := fun _ => by kernel_rfl
  a := fun _ => by kernel_rfl
  f := fun f off h => by simp at h
  g := fun len es h => by cases h
  c := fun e s h => by cases h
  m := fun x y h => by cases h
  b := fun h => absurd h (by decide)
  r := fun h => absurd h (by decide)
  i := by kernel_rfl
  k := fun k h => by cases h
  q := fun _ => isFunc_of (by kernel_rfl)
  p := fun k e h => by cases h

theorem ty104 : TyOk Try.prog 104 { zv := .nilFunc, size := 1, agg := false, flds := [], fsz := [], arr := none, slc := none, tag := 3, bytes := 8, int := none, mp := none } where
  z := fun _ => by kernel_rfl
  s := fun _ => by kernel_rfl
  a := fun _ => by kernel_rfl
  f := fun f off h => by simp at h
  g := fun len es h => by cases h
  c := fun e s h => by cases h
  m := fun x y h => by cases h
  b := fun h => absurd h (by decide)
  r := fun h => absurd h (by decide)
  i := by kernel_rfl
  k := fun k h => by cases h
  q := fun _ => isFunc_of (by kernel_rfl)
  p := fun k e h => by cases h

theorem ty105 : TyOk Try.prog 105 { zv := .nilFunc, size := 1, agg := false, flds := [], fsz := [], arr := none, slc := none, tag := 3, bytes := 8, int := none, mp := none } where
  z := fun _ => by kernel_rfl
  s := fun _ => by kernel_rfl
  a := fun _ => by kernel_rfl
  f := fun f off h => by simp at h
  g := fun len es h => by cases h
  c := fun e s h => by cases h
  m := fun x y h => by cases h
  b := fun h => absurd h (by decide)
  r := fun h => absurd h (by decide)
  i := by kernel_rfl
  k := fun k h => by cases h
  q := fun _ => isFunc_of (by kernel_rfl)
  p := fun k e h => by cases h

theorem ty106 : TyOk Try.prog 106 { zv := .nilFunc, size := 1, agg := false, flds := [], fsz := [], arr := none, slc := none, tag := 3, bytes := 8, int := none, mp := none } where
  z := fun _ => by kernel_rfl
  s := fun _ => by kernel_rfl
  a := fun _ => by kernel_rfl
  f := fun f off h => by simp at h
  g := fun len es h => by cases h
  c := fun e s h => by cases h
  m := fun x y h => by cases h
  b := fun h => absurd h (by decide)
  r := fun h => absurd h (by decide)
  i := by kernel_rfl
  k := fun k h => by cases h
  q := fun _ => isFunc_of (by kernel_rfl)
  p := fun k e h => by cases h

theorem ty107 : TyOk Try.prog 107 { zv := .int .u32 0, size := 1, agg := false, flds := [], fsz := [], arr := none, slc := none, tag := 0, bytes := 4, int := some .u32, mp := none } where
  z := fun _ => by kernel_rfl
  s := fun _ => by kernel_rfl
  a := fun _ => by kernel_rfl
  f := fun f off h => by simp at h
  g := fun len es h => by cases h
  c := fun e s h => by cases h
  m := fun x y h => by cases h
  b := fun h => absurd h (by decide)
  r := fun h => absurd h (by decide)
  i := by kernel_rfl
  k := fun k h => by cases h; kernel_rfl
  q := fun h => absurd h (by decide)
  p := fun k e h => by cases h

theorem ty108 : TyOk Try.prog 108 { zv := .nilFunc, size := 1, agg := false, flds := [], fsz := [], arr := none, slc := none, tag := 3, bytes := 8, int := none, mp := none } where
  z := fun _ => by kernel_rfl
  s := fun _ => by kernel_rfl
  a := fun _ => by kernel_rfl
  f := fun f off h => by simp at h
  g := fun len es h => by cases h
  c := fun e s h => by cases h
  m := fun x y h => by cases h
  b := fun h => absurd h (by decide)
  r := fun h => absurd h (by decide)
  i := by kernel_rfl
  k := fun k h => by cases h
  q := fun _ => isFunc_of (by kernel_rfl)
  p := fun k e h => by cases h

theorem ty109 : TyOk Try.prog 109 { zv := .int .u64 0, size := 1, agg := false, flds := [], fsz := [], arr := none, slc := none, tag := 0, bytes := 8, int := some .u64, mp := none } where
  z := fun _ => by kernel_rfl
  s := fun _ => by kernel_rfl
  a := fun _ => by kernel_rfl
  f := fun f off h => by simp at h
  g := fun len es h => by cases h
  c := fun e s h => by cases h
  m := fun x y h => by cases h
  b := fun h => absurd h (by decide)
  r := fun h => absurd h (by decide)
  i := by kernel_rfl
  k := fun k h => by cases h; kernel_rfl
  q := fun h => absurd h (by decide)
  p := fun k e h => by cases h

theorem ty110 : TyOk Try.prog 110 { zv := .int .u64 0, size := 1, agg := false, flds := [], fsz := [], arr := none, slc := none, tag := 0, bytes := 8, int := some .u64, mp := none } where
  z := fun _ => by kernel_rfl
  s := fun _ => by kernel_rfl
  a := fun _ => by kernel_rfl
  f := fun f off h => by simp at h
  g := fun len es h => by cases h
  c := fun e s h => by cases h
  m := fun x y h => by cases h
  b := fun h => absurd h (by decide)
  r := fun h => absurd h (by decide)
  i := by kernel_rfl
  k := fun k h => by cases h; kernel_rfl
  q := fun h => absurd h (by decide)
  p := fun k e h => by cases h

theorem ty111 : TyOk Try.prog 111 { zv := .nilFunc, size := 1, agg := false, flds := [], fsz := [], arr := none, slc := none, tag := 3, bytes := 8, int := none, mp := none } where
  z := fun _ => by kernel_rfl
  s := fun _ => by kernel_rfl
  a := fun _ => by kernel_rfl
  f := fun f off h => by simp at h
  g := fun len es h => by cases h
  c := fun e s h => by cases h
  m := fun x y h => by cases h
  b := fun h => absurd h (by decide)
  r := fun h => absurd h (by decide)
  i := by kernel_rfl
  k := fun k h => by cases h
  q := fun _ => isFunc_of (by kernel_rfl)
  p := fun k e h => by cases h

theorem ty112 : TyOk Try.prog 112 { zv := .nilFunc, size := 1, agg := false, flds := [], fsz := [], arr := none, slc := none, tag := 3, bytes := 8, int := none, mp := none } where
  z := fun _ => by kernel_rfl
  s := fun _ => by kernel_rfl
  a := fun _ => by kernel_rfl
  f := fun f off h => by simp at h
  g := fun len es h => by cases h
  c := fun e s h => by cases h
  m := fun x y h => by cases h
  b := fun h => absurd h (by decide)
  r := fun h => absurd h (by decide)
  i := by kernel_rfl
  k := fun k h => by cases h
  q := fun _ => isFunc_of (by kernel_rfl)
  p := fun k e h => by cases h

theorem ty113 : TyOk Try.prog 113 { zv := .nilFunc, size := 1, agg := false, flds := [], fsz := [], arr := none, slc := none, tag := 3, bytes := 8, int := none, mp := none } where
  z := fun _ => by kernel_rfl
  s := fun _ => by kernel_rfl
  a := fun _ => by kernel_rfl
  f := fun f off h => by simp at h
  g := fun len es h => by cases h
  c := fun e s h => by cases h
  m := fun x y h => by cases h
  b := fun h => absurd h (by decide)
  r := fun h => absurd h (by decide)
  i := by kernel_rfl
  k := fun k h => by cases h
  q := fun _ => isFunc_of (by kernel_rfl)
  p := fun k e h => by cases h

theorem ty114 : TyOk Try.prog 114 { zv := .pointer none, size := 1, agg := false, flds := [], fsz := [], arr := none, slc := none, tag := 0, bytes := 8, int := none, mp := none } where
  z := fun _ => by kernel_rfl
  s := fun _ => by kernel_rfl
  a := fun _ => by kernel_rfl
  f := fun f off h => by simp at h
  g := fun len es h => by cases h
  c := fun e s h => by cases h
  m := fun x y h => by cases h
  b := fun h => absurd h (by decide)
  r := fun h => absurd h (by decide)
  i := by kernel_rfl
  k := fun k h => by cases h
  q := fun h => absurd h (by decide)
  p := fun k e h => by cases h

theorem ty115 : TyOk Try.prog 115 { zv := .nilFunc, size := 1, agg := false, flds := [], fsz := [], arr := none, slc := none, tag := 3, bytes := 8, int := none, mp := none } where
  z := fun _ => by kernel_rfl
  s := fun _ => by kernel_rfl
  a := fun _ => by kernel_rfl
  f := fun f off h => by simp at h
  g := fun len es h => by cases h
  c := fun e s h => by cases h
  m := fun x y h => by cases h
  b := fun h => absurd h (by decide)
  r := fun h => absurd h (by decide)
  i := by kernel_rfl
  k := fun k h => by cases h
  q := fun _ => isFunc_of (by kernel_rfl)
  p := fun k e h => by cases h

theorem ty116 : TyOk Try.prog 116 { zv := .pointer none, size := 1, agg := false, flds := [], fsz := [], arr := none, slc := none, tag := 0, bytes := 8, int := none, mp := none } where
  z := fun _ => by kernel_rfl
  s := fun _ => by kernel_rfl
  a := fun _ => by kernel_rfl
  f := fun f off h => by simp at h
  g := fun len es h => by cases h
  c := fun e s h => by cases h
  m := fun x y h => by cases h
  b := fun h => absurd h (by decide)
  r := fun h => absurd h (by decide)
  i := by kernel_rfl
  k := fun k h => by cases h
  q := fun h => absurd h (by decide)
  p := fun k e h => by cases h

theorem ty118 : TyOk Try.prog 118 { zv := .nilFunc, size := 1, agg := false, flds := [], fsz := [], arr := none, slc := none, tag := 3, bytes := 8, int := none, mp := none } where
  z := fun _ => by kernel_rfl
  s := fun _ => by kernel_rfl
  a := fun _ => by kernel_rfl
  f := fun f off h => by simp at h
  g := fun len es h => by cases h
  c := fun e s h => by cases h
  m := fun x y h => by cases h
  b := fun h => absurd h (by decide)
  r := fun h => absurd h (by decide)
  i := by kernel_rfl
  k := fun k h => by cases h
  q := fun _ => isFunc_of (by kernel_rfl)
  p := fun k e h => by cases h

theorem ty119 : TyOk Try.prog 119 { zv := .nilFunc, size := 1, agg := false, flds := [], fsz := [], arr := none, slc := none, tag := 3, bytes := 8, int := none, mp := none } where
  z := fun _ => by kernel_rfl
  s := fun _ => by kernel_rfl
  a := fun _ => by kernel_rfl
  f := fun f off h => by simp at h
  g := fun len es h => by cases h
  c := fun e s h => by cases h
  m := fun x y h => by cases h
  b := fun h => absurd h (by decide)
  r := fun h => absurd h (by decide)
  i := by kernel_rfl
  k := fun k h => by cases h
  q := fun _ => isFunc_of (by kernel_rfl)
  p := fun k e h => by cases h

theorem ty125 : TyOk Try.prog 125 { zv := .nilFunc, size := 1, agg := false, flds := [], fsz := [], arr := none, slc := none, tag := 3, bytes := 8, int := none, mp := none } where
  z := fun _ => by kernel_rfl
  s := fun _ => by kernel_rfl
  a := fun _ => by kernel_rfl
  f := fun f off h => by simp at h
  g := fun len es h => by cases h
  c := fun e s h => by cases h
  m := fun x y h => by cases h
  b := fun h => absurd h (by decide)
  r := fun h => absurd h (by decide)
  i := by kernel_rfl
  k := fun k h => by cases h
  q := fun _ => isFunc_of (by kernel_rfl)
  p := fun k e h => by cases h

theorem ty128 : TyOk Try.prog 128 { zv := .nilFunc, size := 1, agg := false, flds := [], fsz := [], arr := none, slc := none, tag := 3, bytes := 8, int := none, mp := none } where
  z := fun _ => by kernel_rfl
  s := fun _ => by kernel_rfl
  a := fun _ => by kernel_rfl
  f := fun f off h => by simp at h
  g := fun len es h => by cases h
  c := fun e s h => by cases h
  m := fun x y h => by cases h
  b := fun h => absurd h (by decide)
  r := fun h => absurd h (by decide)
  i := by kernel_rfl
  k := fun k h => by cases h
  q := fun _ => isFunc_of (by kernel_rfl)
  p := fun k e h => by cases h

theorem ty129 : TyOk Try.prog 129 { zv := .pointer none, size := 1, agg := false, flds := [], fsz := [], arr := none, slc := none, tag := 0, bytes := 8, int := none, mp := none } where
  z := fun _ => by kernel_rfl
  s := fun _ => by kernel_rfl
  a := fun _ => by kernel_rfl
  f := fun f off h => by simp at h
  g := fun len es h => by cases h
  c := fun e s h => by cases h
  m := fun x y h => by cases h
  b := fun h => absurd h (by decide)
  r := fun h => absurd h (by decide)
  i := by kernel_rfl
  k := fun k h => by cases h
  q := fun h => absurd h (by decide)
  p := fun k e h => by cases h

def ent : Nat → Option Ty
  | 1 => some { zv := .nilFunc, size := 1, agg := false, flds := [], fsz := [], arr := none, slc := none, tag := 3, bytes := 8, int := none, mp := none }
  | 2 => some { zv := .int .i64 0, size := 1, agg := false, flds := [], fsz := [], arr := none, slc := none, tag := 0, bytes := 8, int := some .i64, mp := none }
  | 3 => some { zv := .int .i64 0, size := 1, agg := false, flds := [], fsz := [], arr := none, slc := none, tag := 0, bytes := 8, int := some .i64, mp := none }
  | 4 => some { zv := .bool false, size := 1, agg := false, flds := [], fsz := [], arr := none, slc := none, tag := 1, bytes := 1, int := none, mp := none }
  | 5 => some { zv := .int .u8 0, size := 1, agg := false, flds := [], fsz := [], arr := none, slc := none, tag := 0, bytes := 1, int := some .u8, mp := none }
  | 9 => some { zv := .string ⟨#[]⟩, size := 1, agg := false, flds := [], fsz := [], arr := none, slc := none, tag := 2, bytes := 16, int := none, mp := none }
  | 12 => some { zv := .int .u64 0, size := 1, agg := false, flds := [], fsz := [], arr := none, slc := none, tag := 0, bytes := 8, int := some .u64, mp := none }
  | 20 => some { zv := .nilIface, size := 1, agg := false, flds := [], fsz := [], arr := none, slc := none, tag := 0, bytes := 16, int := none, mp := none }
  | 21 => some { zv := .int .i32 0, size := 1, agg := false, flds := [], fsz := [], arr := none, slc := none, tag := 0, bytes := 4, int := some .i32, mp := none }
  | 22 => some { zv := .agg #[.int .i64 0, .int .i64 0, .int .i64 0, .int .i64 0], size := 4, agg := true, flds := [0, 1, 2, 3], fsz := [1, 1, 1, 1], arr := none, slc := none, tag := 0, bytes := 32, int := none, mp := none }
  | 23 => some { zv := .agg #[.int .i64 0, .int .i64 0, .int .i64 0, .int .i64 0], size := 4, agg := true, flds := [0, 1, 2, 3], fsz := [1, 1, 1, 1], arr := none, slc := none, tag := 0, bytes := 32, int := none, mp := none }
  | 24 => some { zv := .agg #[.int .i64 0, .int .i64 0, .int .i64 0], size := 3, agg := true, flds := [], fsz := [], arr := some (3, 1), slc := none, tag := 0, bytes := 24, int := none, mp := none }
  | 25 => some { zv := .agg #[.int .i64 0, .int .i64 0, .int .i64 0, .int .i64 0, .int .i64 0], size := 5, agg := true, flds := [0, 1, 2], fsz := [1, 1, 3], arr := none, slc := none, tag := 0, bytes := 40, int := none, mp := none }
  | 26 => some { zv := .agg #[.int .i64 0, .int .i64 0, .int .i64 0, .int .i64 0, .int .i64 0], size := 5, agg := true, flds := [0, 1, 2], fsz := [1, 1, 3], arr := none, slc := none, tag := 0, bytes := 40, int := none, mp := none }
  | 27 => some { zv := .slice none 0 0, size := 1, agg := false, flds := [], fsz := [], arr := none, slc := some (38, 2), tag := 0, bytes := 24, int := none, mp := none }
  | 28 => some { zv := .nilFunc, size := 1, agg := false, flds := [], fsz := [], arr := none, slc := none, tag := 3, bytes := 8, int := none, mp := none }
  | 29 => some { zv := .nilFunc, size := 1, agg := false, flds := [], fsz := [], arr := none, slc := none, tag := 3, bytes := 8, int := none, mp := none }
  | 30 => some { zv := .nilFunc, size := 1, agg := false, flds := [], fsz := [], arr := none, slc := none, tag := 3, bytes := 8, int := none, mp := none }
  | 31 => some { zv := .nilFunc, size := 1, agg := false, flds := [], fsz := [], arr := none, slc := none, tag := 3, bytes := 8, int := none, mp := none }
  | 33 => some { zv := .nilFunc, size := 1, agg := false, flds := [], fsz := [], arr := none, slc := none, tag := 3, bytes := 8, int := none, mp := none }
  | 34 => some { zv := .nilFunc, size := 1, agg := false, flds := [], fsz := [], arr := none, slc := none, tag := 3, bytes := 8, int := none, mp := none }
  | 35 => some { zv := .nilFunc, size := 1, agg := false, flds := [], fsz := [], arr := none, slc := none, tag := 3, bytes := 8, int := none, mp := none }
  | 36 => some { zv := .nilFunc, size := 1, agg := false, flds := [], fsz := [], arr := none, slc := none, tag := 3, bytes := 8, int := none, mp := none }
  | 37 => some { zv := .agg #[.int .i64 0, .int .i64 0], size := 2, agg := true, flds := [0, 1], fsz := [1, 1], arr := none, slc := none, tag := 0, bytes := 16, int := none, mp := none }
  | 38 => some { zv := .agg #[.int .i64 0, .int .i64 0], size := 2, agg := true, flds := [0, 1], fsz := [1, 1], arr := none, slc := none, tag := 0, bytes := 16, int := none, mp := none }
  | 39 => some { zv := .slice none 0 0, size := 1, agg := false, flds := [], fsz := [], arr := none, slc := some (27, 1), tag := 0, bytes := 24, int := none, mp := none }
  | 40 => some { zv := .nilFunc, size := 1, agg := false, flds := [], fsz := [], arr := none, slc := none, tag := 3, bytes := 8, int := none, mp := none }
  | 41 => some { zv := .nilFunc, size := 1, agg := false, flds := [], fsz := [], arr := none, slc := none, tag := 3, bytes := 8, int := none, mp := none }
  | 42 => some { zv := .nilFunc, size := 1, agg := false, flds := [], fsz := [], arr := none, slc := none, tag := 3, bytes := 8, int := none, mp := none }
  | 43 => some { zv := .slice none 0 0, size := 1, agg := false, flds := [], fsz := [], arr := none, slc := some (26, 5), tag := 0, bytes := 24, int := none, mp := none }
  | 44 => some { zv := .nilFunc, size := 1, agg := false, flds := [], fsz := [], arr := none, slc := none, tag := 3, bytes := 8, int := none, mp := none }
  | 45 => some { zv := .nilFunc, size := 1, agg := false, flds := [], fsz := [], arr := none, slc := none, tag := 3, bytes := 8, int := none, mp := none }
  | 46 => some { zv := .nilFunc, size := 1, agg := false, flds := [], fsz := [], arr := none, slc := none, tag := 3, bytes := 8, int := none, mp := none }
  | 47 => some { zv := .nilFunc, size := 1, agg := false, flds := [], fsz := [], arr := none, slc := none, tag := 3, bytes := 8, int := none, mp := none }
  | 48 => some { zv := .nilFunc, size := 1, agg := false, flds := [], fsz := [], arr := none, slc := none, tag := 3, bytes := 8, int := none, mp := none }
  | 49 => some { zv := .int .i64 0, size := 1, agg := false, flds := [], fsz := [], arr := none, slc := none, tag := 0, bytes := 8, int := some .i64, mp := none }
  | 51 => some { zv := .nilFunc, size := 1, agg := false, flds := [], fsz := [], arr := none, slc := none, tag := 3, bytes := 8, int := none, mp := none }
  | 52 => some { zv := .agg #[.int .i64 0, .int .i64 0, .int .i64 0, .int .i64 0, .int .i64 0, .int .i64 0, .int .i64 0], size := 7, agg := true, flds := [0, 1, 2, 3, 4], fsz := [1, 1, 1, 1, 3], arr := none, slc := none, tag := 0, bytes := 56, int := none, mp := none }
  | 53 => some { zv := .agg #[.int .i64 0, .int .i64 0, .int .i64 0, .int .i64 0, .int .i64 0, .int .i64 0, .int .i64 0], size := 7, agg := true, flds := [0, 1, 2, 3, 4], fsz := [1, 1, 1, 1, 3], arr := none, slc := none, tag := 0, bytes := 56, int := none, mp := none }
  | 54 => some { zv := .nilFunc, size := 1, agg := false, flds := [], fsz := [], arr := none, slc := none, tag := 3, bytes := 8, int := none, mp := none }
  | 55 => some { zv := .nilFunc, size := 1, agg := false, flds := [], fsz := [], arr := none, slc := none, tag := 3, bytes := 8, int := none, mp := none }
  | 56 => some { zv := .nilFunc, size := 1, agg := false, flds := [], fsz := [], arr := none, slc := none, tag := 3, bytes := 8, int := none, mp := none }
  | 57 => some { zv := .nilFunc, size := 1, agg := false, flds := [], fsz := [], arr := none, slc := none, tag := 3, bytes := 8, int := none, mp := none }
  | 58 => some { zv := .nilFunc, size := 1, agg := false, flds := [], fsz := [], arr := none, slc := none, tag := 3, bytes := 8, int := none, mp := none }
  | 59 => some { zv := .nilFunc, size := 1, agg := false, flds := [], fsz := [], arr := none, slc := none, tag := 3, bytes := 8, int := none, mp := none }
  | 60 => some { zv := .nilFunc, size := 1, agg := false, flds := [], fsz := [], arr := none, slc := none, tag := 3, bytes := 8, int := none, mp := none }
  | 61 => some { zv := .slice none 0 0, size := 1, agg := false, flds := [], fsz := [], arr := none, slc := some (3, 1), tag := 0, bytes := 24, int := none, mp := none }
  | 62 => some { zv := .nilFunc, size := 1, agg := false, flds := [], fsz := [], arr := none, slc := none, tag := 3, bytes := 8, int := none, mp := none }
  | 63 => some { zv := .nilFunc, size := 1, agg := false, flds := [], fsz := [], arr := none, slc := none, tag := 3, bytes := 8, int := none, mp := none }
  | 64 => some { zv := .nilFunc, size := 1, agg := false, flds := [], fsz := [], arr := none, slc := none, tag := 3, bytes := 8, int := none, mp := none }
  | 65 => some { zv := .nilFunc, size := 1, agg := false, flds := [], fsz := [], arr := none, slc := none, tag := 3, bytes := 8, int := none, mp := none }
  | 67 => some { zv := .nilFunc, size := 1, agg := false, flds := [], fsz := [], arr := none, slc := none, tag := 3, bytes := 8, int := none, mp := none }
  | 68 => some { zv := .nilFunc, size := 1, agg := false, flds := [], fsz := [], arr := none, slc := none, tag := 3, bytes := 8, int := none, mp := none }
  | 69 => some { zv := .nilFunc, size := 1, agg := false, flds := [], fsz := [], arr := none, slc := none, tag := 3, bytes := 8, int := none, mp := none }
  | 70 => some { zv := .nilFunc, size := 1, agg := false, flds := [], fsz := [], arr := none, slc := none, tag := 3, bytes := 8, int := none, mp := none }
  | 71 => some { zv := .nilFunc, size := 1, agg := false, flds := [], fsz := [], arr := none, slc := none, tag := 3, bytes := 8, int := none, mp := none }
  | 72 => some { zv := .nilFunc, size := 1, agg := false, flds := [], fsz := [], arr := none, slc := none, tag := 3, bytes := 8, int := none, mp := none }
  | 73 => some { zv := .nilFunc, size := 1, agg := false, flds := [], fsz := [], arr := none, slc := none, tag := 3, bytes := 8, int := none, mp := none }
  | 74 => some { zv := .nilFunc, size := 1, agg := false, flds := [], fsz := [], arr := none, slc := none, tag := 3, bytes := 8, int := none, mp := none }
  | 75 => some { zv := .agg #[.nilFunc, .nilFunc], size := 2, agg := true, flds := [0, 1], fsz := [1, 1], arr := none, slc := none, tag := 0, bytes := 16, int := none, mp := none }
  | 76 => some { zv := .agg #[.nilFunc, .nilFunc], size := 2, agg := true, flds := [0, 1], fsz := [1, 1], arr := none, slc := none, tag := 0, bytes := 16, int := none, mp := none }
  | 77 => some { zv := .nilFunc, size := 1, agg := false, flds := [], fsz := [], arr := none, slc := none, tag := 3, bytes := 8, int := none, mp := none }
  | 78 => some { zv := .map none, size := 1, agg := false, flds := [], fsz := [], arr := none, slc := none, tag := 0, bytes := 8, int := none, mp := some (3, 3) }
  | 80 => some { zv := .nilFunc, size := 1, agg := false, flds := [], fsz := [], arr := none, slc := none, tag := 3, bytes := 8, int := none, mp := none }
  | 81 => some { zv := .nilFunc, size := 1, agg := false, flds := [], fsz := [], arr := none, slc := none, tag := 3, bytes := 8, int := none, mp := none }
  | 82 => some { zv := .nilFunc, size := 1, agg := false, flds := [], fsz := [], arr := none, slc := none, tag := 3, bytes := 8, int := none, mp := none }
  | 83 => some { zv := .nilFunc, size := 1, agg := false, flds := [], fsz := [], arr := none, slc := none, tag := 3, bytes := 8, int := none, mp := none }
  | 84 => some { zv := .nilFunc, size := 1, agg := false, flds := [], fsz := [], arr := none, slc := none, tag := 3, bytes := 8, int := none, mp := none }
  | 85 => some { zv := .nilFunc, size := 1, agg := false, flds := [], fsz := [], arr := none, slc := none, tag := 3, bytes := 8, int := none, mp := none }
  | 86 => some { zv := .nilFunc, size := 1, agg := false, flds := [], fsz := [], arr := none, slc := none, tag := 3, bytes := 8, int := none, mp := none }
  | 87 => some { zv := .nilFunc, size := 1, agg := false, flds := [], fsz := [], arr := none, slc := none, tag := 3, bytes := 8, int := none, mp := none }
  | 88 => some { zv := .nilFunc, size := 1, agg := false, flds := [], fsz := [], arr := none, slc := none, tag := 3, bytes := 8, int := none, mp := none }
  | 89 => some { zv := .nilFunc, size := 1, agg := false, flds := [], fsz := [], arr := none, slc := none, tag := 3, bytes := 8, int := none, mp := none }
  | 90 => some { zv := .nilFunc, size := 1, agg := false, flds := [], fsz := [], arr := none, slc := none, tag := 3, bytes := 8, int := none, mp := none }
  | 91 => some { zv := .nilFunc, size := 1, agg := false, flds := [], fsz := [], arr := none, slc := none, tag := 3, bytes := 8, int := none, mp := none }
  | 92 => some { zv := .nilFunc, size := 1, agg := false, flds := [], fsz := [], arr := none, slc := none, tag := 3, bytes := 8, int := none, mp := none }
  | 93 => some { zv := .nilFunc, size := 1, agg := false, flds := [], fsz := [], arr := none, slc := none, tag := 3, bytes := 8, int := none, mp := none }
  | 94 => some { zv := .nilFunc, size := 1, agg := false, flds := [], fsz := [], arr := none, slc := none, tag := 3, bytes := 8, int := none, mp := none }
  | 95 => some { zv := .nilFunc, size := 1, agg := false, flds := [], fsz := [], arr := none, slc := none, tag := 3, bytes := 8, int := none, mp := none }
  | 96 => some { zv := .nilFunc, size := 1, agg := false, flds := [], fsz := [], arr := none, slc := none, tag := 3, bytes := 8, int := none, mp := none }
  | 97 => some { zv := .nilFunc, size := 1, agg := false, flds := [], fsz := [], arr := none, slc := none, tag := 3, bytes := 8, int := none, mp := none }
  | 98 => some { zv := .int .u64 0, size := 1, agg := false, flds := [], fsz := [], arr := none, slc := none, tag := 0, bytes := 8, int := some .u64, mp := none }
  | 99 => some { zv := .nilFunc, size := 1, agg := false, flds := [], fsz := [], arr := none, slc := none, tag := 3, bytes := 8, int := none, mp := none }
  | 100 => some { zv := .int .i64 0, size := 1, agg := false, flds := [], fsz := [], arr := none, slc := none, tag := 0, bytes := 8, int := some .i64, mp := none }
  | 102 => some { zv := .nilFunc, size := 1, agg := false, flds := [], fsz := [], arr := none, slc := none, tag := 3, bytes := 8, int := none, mp := none }
  | 103 => some { zv := .nilFunc, size := 1, agg := false, flds := [], fsz := [], arr := none, slc := none, tag := 3, bytes := 8, int := none, mp := none }
  | 104 => some { zv := .nilFunc, size := 1, agg := false, flds := [], fsz := [], arr := none, slc := none, tag := 3, bytes := 8, int := none, mp := none }
  | 105 => some { zv := .nilFunc, size := 1, agg := false, flds := [], fsz := [], arr := none, slc := none, tag := 3, bytes := 8, int := none, mp := none }
  | 106 => some { zv := .nilFunc, size := 1, agg := false, flds := [], fsz := [], arr := none, slc := none, tag := 3, bytes := 8, int := none, mp := none }
  | 107 => some { zv := .int .u32 0, size := 1, agg := false, flds := [], fsz := [], arr := none, slc := none, tag := 0, bytes := 4, int := some .u32, mp := none }
  | 108 => some { zv := .nilFunc, size := 1, agg := false, flds := [], fsz := [], arr := none, slc := none, tag := 3, bytes := 8, int := none, mp := none }
  | 109 => some { zv := .int .u64 0, size := 1, agg := false, flds := [], fsz := [], arr := none, slc := none, tag := 0, bytes := 8, int := some .u64, mp := none }
  | 110 => some { zv := .int .u64 0, size := 1, agg := false, flds := [], fsz := [], arr := none, slc := none, tag := 0, bytes := 8, int := some .u64, mp := none }
  | 111 => some { zv := .nilFunc, size := 1, agg := false, flds := [], fsz := [], arr := none, slc := none, tag := 3, bytes := 8, int := none, mp := none }
  | 112 => some { zv := .nilFunc, size := 1, agg := false, flds := [], fsz := [], arr := none, slc := none, tag := 3, bytes := 8, int := none, mp := none }
  | 113 => some { zv := .nilFunc, size := 1, agg := false, flds := [], fsz := [], arr := none, slc := none, tag := 3, bytes := 8, int := none, mp := none }
  | 114 => some { zv := .pointer none, size := 1, agg := false, flds := [], fsz := [], arr := none, slc := none, tag := 0, bytes := 8, int := none, mp := none }
  | 115 => some { zv := .nilFunc, size := 1, agg := false, flds := [], fsz := [], arr := none, slc := none, tag := 3, bytes := 8, int := none, mp := none }
  | 116 => some { zv := .pointer none, size := 1, agg := false, flds := [], fsz := [], arr := none, slc := none, tag := 0, bytes := 8, int := none, mp := none }
  | 118 => some { zv := .nilFunc, size := 1, agg := false, flds := [], fsz := [], arr := none, slc := none, tag := 3, bytes := 8, int := none, mp := none }
  | 119 => some { zv := .nilFunc, size := 1, agg := false, flds := [], fsz := [], arr := none, slc := none, tag := 3, bytes := 8, int := none, mp := none }
  | 125 => some { zv := .nilFunc, size := 1, agg := false, flds := [], fsz := [], arr := none, slc := none, tag := 3, bytes := 8, int := none, mp := none }
  | 128 => some { zv := .nilFunc, size := 1, agg := false, flds := [], fsz := [], arr := none, slc := none, tag := 3, bytes := 8, int := none, mp := none }
  | 129 => some { zv := .pointer none, size := 1, agg := false, flds := [], fsz := [], arr := none, slc := none, tag := 0, bytes := 8, int := none, mp := none }
  | _ => none
theorem ent_ok : ∀ T t, ent T = some t → TyOk Try.prog T t := by
  intro T t h
  unfold ent at h
  split at h
  · cases h; exact ty1
  · cases h; exact ty2
  · cases h; exact ty3
  · cases h; exact ty4
  · cases h; exact ty5
  · cases h; exact ty9
  · cases h; exact ty12
  · cases h; exact ty20
  · cases h; exact ty21
  · cases h; exact ty22
  · cases h; exact ty23
  · cases h; exact ty24
  · cases h; exact ty25
  · cases h; exact ty26
  · cases h; exact ty27
  · cases h; exact ty28
  · cases h; exact ty29
  · cases h; exact ty30
  · cases h; exact ty31
  · cases h; exact ty33
  · cases h; exact ty34
  · cases h; exact ty35
  · cases h; exact ty36
  · cases h; exact ty37
  · cases h; exact ty38
  · cases h; exact ty39
  · cases h; exact ty40
  · cases h; exact ty41
  · cases h; exact ty42
  · cases h; exact ty43
  · cases h; exact ty44
  · cases h; exact ty45
  · cases h; exact ty46
  · cases h; exact ty47
  · cases h; exact ty48
  · cases h; exact ty49
  · cases h; exact ty51
  · cases h; exact ty52
  · cases h; exact ty53
  · cases h; exact ty54
  · cases h; exact ty55
  · cases h; exact ty56
  · cases h; exact ty57
  · cases h; exact ty58
  · cases h; exact ty59
  · cases h; exact ty60
  · cases h; exact ty61
  · cases h; exact ty62
  · cases h; exact ty63
  · cases h; exact ty64
  · cases h; exact ty65
  · cases h; exact ty67
  · cases h; exact ty68
  · cases h; exact ty69
  · cases h; exact ty70
  · cases h; exact ty71
  · cases h; exact ty72
  · cases h; exact ty73
  · cases h; exact ty74
  · cases h; exact ty75
  · cases h; exact ty76
  · cases h; exact ty77
  · cases h; exact ty78
  · cases h; exact ty80
  · cases h; exact ty81
  · cases h; exact ty82
  · cases h; exact ty83
  · cases h; exact ty84
  · cases h; exact ty85
  · cases h; exact ty86
  · cases h; exact ty87
  · cases h; exact ty88
  · cases h; exact ty89
  · cases h; exact ty90
  · cases h; exact ty91
  · cases h; exact ty92
  · cases h; exact ty93
  · cases h; exact ty94
  · cases h; exact ty95
  · cases h; exact ty96
  · cases h; exact ty97
  · cases h; exact ty98
  · cases h; exact ty99
  · cases h; exact ty100
  · cases h; exact ty102
  · cases h; exact ty103
  · cases h; exact ty104
  · cases h; exact ty105
  · cases h; exact ty106
  · cases h; exact ty107
  · cases h; exact ty108
  · cases h; exact ty109
  · cases h; exact ty110
  · cases h; exact ty111
  · cases h; exact ty112
  · cases h; exact ty113
  · cases h; exact ty114
  · cases h; exact ty115
  · cases h; exact ty116
  · cases h; exact ty118
  · cases h; exact ty119
  · cases h; exact ty125
  · cases h; exact ty128
  · cases h; exact ty129
  · cases h
theorem eq22 : flatN Try.prog 5 22 = some 4 := by kernel_rfl
theorem eq23 : flatN Try.prog 5 23 = some 4 := by kernel_rfl
theorem eq24 : flatN Try.prog 5 24 = some 3 := by kernel_rfl
theorem eq25 : flatN Try.prog 5 25 = some 5 := by kernel_rfl
theorem eq26 : flatN Try.prog 5 26 = some 5 := by kernel_rfl
theorem eq37 : flatN Try.prog 5 37 = some 2 := by kernel_rfl
theorem eq38 : flatN Try.prog 5 38 = some 2 := by kernel_rfl
theorem eq52 : flatN Try.prog 5 52 = some 7 := by kernel_rfl
theorem eq53 : flatN Try.prog 5 53 = some 7 := by kernel_rfl
def eqs : Nat → Bool
  | 22 => true
  | 23 => true
  | 24 => true
  | 25 => true
  | 26 => true
  | 37 => true
  | 38 => true
  | 52 => true
  | 53 => true
  | _ => false
theorem eqs_ok : ∀ T t xs ys r, eqs T = true → ent T = some t → xs.length = t.size → cmpInts xs ys = some r → EqAt Try.prog T (.agg xs.toArray) (.agg ys.toArray) r := by
  intro T t xs ys r h ht hl hc
  unfold eqs at h
  split at h
  · cases ht; exact eqAt_flat eq22 (by decide) (by kernel_rfl) (fun _ => by kernel_rfl) hl hc
  · cases ht; exact eqAt_flat eq23 (by decide) (by kernel_rfl) (fun _ => by kernel_rfl) hl hc
  · cases ht; exact eqAt_flat eq24 (by decide) (by kernel_rfl) (fun _ => by kernel_rfl) hl hc
  · cases ht; exact eqAt_flat eq25 (by decide) (by kernel_rfl) (fun _ => by kernel_rfl) hl hc
  · cases ht; exact eqAt_flat eq26 (by decide) (by kernel_rfl) (fun _ => by kernel_rfl) hl hc
  · cases ht; exact eqAt_flat eq37 (by decide) (by kernel_rfl) (fun _ => by kernel_rfl) hl hc
  · cases ht; exact eqAt_flat eq38 (by decide) (by kernel_rfl) (fun _ => by kernel_rfl) hl hc
  · cases ht; exact eqAt_flat eq52 (by decide) (by kernel_rfl) (fun _ => by kernel_rfl) hl hc
  · cases ht; exact eqAt_flat eq53 (by decide) (by kernel_rfl) (fun _ => by kernel_rfl) hl hc
  · cases h
noncomputable def C : Ctx := { P := Try.prog, ent := ent, ok := ent_ok, mixed := by kernel_rfl, eqs := eqs, eqok := eqs_ok }
end Go.Proofs.Ytflmehahkcijcaa
