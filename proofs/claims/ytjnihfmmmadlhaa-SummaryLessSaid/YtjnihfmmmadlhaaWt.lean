/- The types of this seat, for the rules: each row a closed fact. Written by gentab2.py. -/
import Derived.Test.YtjnihfmmmadlhaaWd
import Derived.Test.YtjnihfmmmadlhaaWf
import Derived.Test.YtjnihfmmmadlhaaProg
import Derived.KernelRfl
namespace Go.Proofs.Ytjnihfmmmadlhaa
open Go Go.RowKit
theorem ty1 : TyOk Try.prog 1 { zv := .nilFunc, size := 1, agg := false, flds := [], fsz := [], arr := none, slc := none, tag := 3, bytes := 8, int := none, mp := none } where
  z := fun _ => by kernel_rfl
  s := fun _ => by kernel_rfl
  a := fun _ => by kernel_rfl
  f := fun f off h => by simp at h
  g := fun len es h => by cases h
  c := fun e s h => by cases h
  m := fun x y h => by cases h
  b := fun h => absurd h (by decide)
  r := fun h => absurd h (by decide)
  i := by kernel_rfl
  k := fun k h => by cases h
  q := fun _ => isFunc_of (by kernel_rfl)
  p := fun k e h => by cases h

theorem ty2 : TyOk Try.prog 2 { zv := .int .i64 0, size := 1, agg := false, flds := [], fsz := [], arr := none, slc := none, tag := 0, bytes := 8, int := some .i64, mp := none } where
  z := fun _ => by kernel_rfl
  s := fun _ => by kernel_rfl
  a := fun _ => by kernel_rfl
  f := fun f off h => by simp at h
  g := fun len es h => by cases h
  c := fun e s h => by cases h
  m := fun x y h => by cases h
  b := fun h => absurd h (by decide)
  r := fun h => absurd h (by decide)
  i := by kernel_rfl
  k := fun k h => by cases h; kernel_rfl
  q := fun h => absurd h (by decide)
  p := fun k e h => by cases h

theorem ty3 : TyOk Try.prog 3 { zv := .int .i64 0, size := 1, agg := false, flds := [], fsz := [], arr := none, slc := none, tag := 0, bytes := 8, int := some .i64, mp := none } where
  z := fun _ => by kernel_rfl
  s := fun _ => by kernel_rfl
  a := fun _ => by kernel_rfl
  f := fun f off h => by simp at h
  g := fun len es h => by cases h
  c := fun e s h => by cases h
  m := fun x y h => by cases h
  b := fun h => absurd h (by decide)
  r := fun h => absurd h (by decide)
  i := by kernel_rfl
  k := fun k h => by cases h; kernel_rfl
  q := fun h => absurd h (by decide)
  p := fun k e h => by cases h

theorem ty4 : TyOk Try.prog 4 { zv := .bool false, size := 1, agg := false, flds := [], fsz := [], arr := none, slc := none, tag := 1, bytes := 1, int := none, mp := none } where
  z := fun _ => by kernel_rfl
  s := fun _ => by kernel_rfl
  a := fun _ => by kernel_rfl
  f := fun f off h => by simp at h
  g := fun len es h => by cases h
  c := fun e s h => by cases h
  m := fun x y h => by cases h
  b := fun _ => by kernel_rfl
  r := fun h => absurd h (by decide)
  i := by kernel_rfl
  k := fun k h => by cases h
  q := fun h => absurd h (by decide)
  p := fun k e h => by cases h

theorem ty5 : TyOk Try.prog 5 { zv := .int .u8 0, size := 1, agg := false, flds := [], fsz := [], arr := none, slc := none, tag := 0, bytes := 1, int := some .u8, mp := none } where
  z := fun _ => by kernel_rfl
  s := fun _ => by kernel_rfl
  a := fun _ => by kernel_rfl
  f := fun f off h => by simp at h
  g := fun len es h => by cases h
  c := fun e s h => by cases h
  m := fun x y h => by cases h
  b := fun h => absurd h (by decide)
  r := fun h => absurd h (by decide)
  i := by kernel_rfl
  k := fun k h => by cases h; kernel_rfl
  q := fun h => absurd h (by decide)
  p := fun k e h => by cases h

theorem ty9 : TyOk Try.prog 9 { zv := .string ⟨#[]⟩, size := 1, agg := false, flds := [], fsz := [], arr := none, slc := none, tag := 2, bytes := 16, int := none, mp := none } where
  z := fun _ => by kernel_rfl
  s := fun _ => by kernel_rfl
  a := fun _ => by kernel_rfl
  f := fun f off h => by simp at h
  g := fun len es h => by cases h
  c := fun e s h => by cases h
  m := fun x y h => by cases h
  b := fun h => absurd h (by decide)
  r := fun _ => by kernel_rfl
  i := by kernel_rfl
  k := fun k h => by cases h
  q := fun h => absurd h (by decide)
  p := fun k e h => by cases h

theorem ty12 : TyOk Try.prog 12 { zv := .int .u64 0, size := 1, agg := false, flds := [], fsz := [], arr := none, slc := none, tag := 0, bytes := 8, int := some .u64, mp := none } where
  z := fun _ => by kernel_rfl
  s := fun _ => by kernel_rfl
  a := fun _ => by kernel_rfl
  f := fun f off h => by simp at h
  g := fun len es h => by cases h
  c := fun e s h => by cases h
  m := fun x y h => by cases h
  b := fun h => absurd h (by decide)
  r := fun h => absurd h (by decide)
  i := by kernel_rfl
  k := fun k h => by cases h; kernel_rfl
  q := fun h => absurd h (by decide)
  p := fun k e h => by cases h

theorem ty20 : TyOk Try.prog 20 { zv := .nilIface, size := 1, agg := false, flds := [], fsz := [], arr := none, slc := none, tag := 0, bytes := 16, int := none, mp := none } where
  z := fun _ => by kernel_rfl
  s := fun _ => by kernel_rfl
  a := fun _ => by kernel_rfl
  f := fun f off h => by simp at h
  g := fun len es h => by cases h
  c := fun e s h => by cases h
  m := fun x y h => by cases h
  b := fun h => absurd h (by decide)
  r := fun h => absurd h (by decide)
  i := by kernel_rfl
  k := fun k h => by cases h
  q := fun h => absurd h (by decide)
  p := fun k e h => by cases h

theorem ty21 : TyOk Try.prog 21 { zv := .int .i32 0, size := 1, agg := false, flds := [], fsz := [], arr := none, slc := none, tag := 0, bytes := 4, int := some .i32, mp := none } where
  z := fun _ => by kernel_rfl
  s := fun _ => by kernel_rfl
  a := fun _ => by kernel_rfl
  f := fun f off h => by simp at h
  g := fun len es h => by cases h
  c := fun e s h => by cases h
  m := fun x y h => by cases h
  b := fun h => absurd h (by decide)
  r := fun h => absurd h (by decide)
  i := by kernel_rfl
  k := fun k h => by cases h; kernel_rfl
  q := fun h => absurd h (by decide)
  p := fun k e h => by cases h

theorem ty22 : TyOk Try.prog 22 { zv := .agg #[.int .i64 0, .int .i64 0, .int .i64 0], size := 3, agg := true, flds := [], fsz := [], arr := some (3, 1), slc := none, tag := 0, bytes := 24, int := none, mp := none } where
  z := fun _ => by kernel_rfl
  s := fun _ => by kernel_rfl
  a := fun _ => by kernel_rfl
  f := fun f off h => by simp at h
  g := fun len es h => by cases h; exact ⟨3, by kernel_rfl, fun _ => by kernel_rfl, fun _ _ => by kernel_rfl⟩
  c := fun e s h => by cases h
  m := fun x y h => by cases h
  b := fun h => absurd h (by decide)
  r := fun h => absurd h (by decide)
  i := by kernel_rfl
  k := fun k h => by cases h
  q := fun h => absurd h (by decide)
  p := fun k e h => by cases h

theorem ty23 : TyOk Try.prog 23 { zv := .agg #[.int .i64 0, .int .i64 0, .int .i64 0, .int .i64 0, .int .i64 0, .int .i64 0, .int .i64 0], size := 7, agg := true, flds := [0, 1, 2, 3, 4], fsz := [1, 1, 1, 1, 3], arr := none, slc := none, tag := 0, bytes := 56, int := none, mp := none } where
  z := fun _ => by kernel_rfl
  s := fun _ => by kernel_rfl
  a := fun _ => by kernel_rfl
  f := fun f off h => match f, off, h with
      | 0, _, rfl => fun _ _ _ => by kernel_rfl
      | 1, _, rfl => fun _ _ _ => by kernel_rfl
      | 2, _, rfl => fun _ _ _ => by kernel_rfl
      | 3, _, rfl => fun _ _ _ => by kernel_rfl
      | 4, _, rfl => fun _ _ _ => by kernel_rfl
      | _ + 5, _, h => by simp at h
  g := fun len es h => by cases h
  c := fun e s h => by cases h
  m := fun x y h => ⟨Try.prog.fieldsOf 23, by kernel_rfl, fun _ => by kernel_rfl⟩
  b := fun h => absurd h (by decide)
  r := fun h => absurd h (by decide)
  i := by kernel_rfl
  k := fun k h => by cases h
  q := fun h => absurd h (by decide)
  p := fun k e h => by cases h

theorem ty24 : TyOk Try.prog 24 { zv := .agg #[.int .i64 0, .int .i64 0, .int .i64 0, .int .i64 0, .int .i64 0, .int .i64 0, .int .i64 0], size := 7, agg := true, flds := [0, 1, 2, 3, 4], fsz := [1, 1, 1, 1, 3], arr := none, slc := none, tag := 0, bytes := 56, int := none, mp := none } where
  z := fun _ => by kernel_rfl
  s := fun _ => by kernel_rfl
  a := fun _ => by kernel_rfl
  f := fun f off h => match f, off, h with
      | 0, _, rfl => fun _ _ _ => by kernel_rfl
      | 1, _, rfl => fun _ _ _ => by kernel_rfl
      | 2, _, rfl => fun _ _ _ => by kernel_rfl
      | 3, _, rfl => fun _ _ _ => by kernel_rfl
      | 4, _, rfl => fun _ _ _ => by kernel_rfl
      | _ + 5, _, h => by simp at h
  g := fun len es h => by cases h
  c := fun e s h => by cases h
  m := fun x y h => ⟨Try.prog.fieldsOf 24, by kernel_rfl, fun _ => by kernel_rfl⟩
  b := fun h => absurd h (by decide)
  r := fun h => absurd h (by decide)
  i := by kernel_rfl
  k := fun k h => by cases h
  q := fun h => absurd h (by decide)
  p := fun k e h => by cases h

theorem ty25 : TyOk Try.prog 25 { zv := .nilFunc, size := 1, agg := false, flds := [], fsz := [], arr := none, slc := none, tag := 3, bytes := 8, int := none, mp := none } where
  z := fun _ => by kernel_rfl
  s := fun _ => by kernel_rfl
  a := fun _ => by kernel_rfl
  f := fun f off h => by simp at h
  g := fun len es h => by cases h
  c := fun e s h => by cases h
  m := fun x y h => by cases h
  b := fun h => absurd h (by decide)
  r := fun h => absurd h (by decide)
  i := by kernel_rfl
  k := fun k h => by cases h
  q := fun _ => isFunc_of (by kernel_rfl)
  p := fun k e h => by cases h

theorem ty26 : TyOk Try.prog 26 { zv := .nilFunc, size := 1, agg := false, flds := [], fsz := [], arr := none, slc := none, tag := 3, bytes := 8, int := none, mp := none } where
  z := fun _ => by kernel_rfl
  s := fun _ => by kernel_rfl
  a := fun _ => by kernel_rfl
  f := fun f off h => by simp at h
  g := fun len es h => by cases h
  c := fun e s h => by cases h
  m := fun x y h => by cases h
  b := fun h => absurd h (by decide)
  r := fun h => absurd h (by decide)
  i := by kernel_rfl
  k := fun k h => by cases h
  q := fun _ => isFunc_of (by kernel_rfl)
  p := fun k e h => by cases h

theorem ty27 : TyOk Try.prog 27 { zv := .nilFunc, size := 1, agg := false, flds := [], fsz := [], arr := none, slc := none, tag := 3, bytes := 8, int := none, mp := none } where
  z := fun _ => by kernel_rfl
  s := fun _ => by kernel_rfl
  a := fun _ => by kernel_rfl
  f := fun f off h => by simp at h
  g := fun len es h => by cases h
  c := fun e s h => by cases h
  m := fun x y h => by cases h
  b := fun h => absurd h (by decide)
  r := fun h => absurd h (by decide)
  i := by kernel_rfl
  k := fun k h => by cases h
  q := fun _ => isFunc_of (by kernel_rfl)
  p := fun k e h => by cases h

theorem ty28 : TyOk Try.prog 28 { zv := .nilFunc, size := 1, agg := false, flds := [], fsz := [], arr := none, slc := none, tag := 3, bytes := 8, int := none, mp := none } where
  z := fun _ => by kernel_rfl
  s := fun _ => by kernel_rfl
  a := fun _ => by kernel_rfl
  f := fun f off h => by simp at h
  g := fun len es h => by cases h
  c := fun e s h => by cases h
  m := fun x y h => by cases h
  b := fun h => absurd h (by decide)
  r := fun h => absurd h (by decide)
  i := by kernel_rfl
  k := fun k h => by cases h
  q := fun _ => isFunc_of (by kernel_rfl)
  p := fun k e h => by cases h

theorem ty29 : TyOk Try.prog 29 { zv := .agg #[.int .i64 0, .int .i64 0, .int .i64 0, .int .i64 0, .int .i64 0], size := 5, agg := true, flds := [0, 1, 2], fsz := [1, 1, 3], arr := none, slc := none, tag := 0, bytes := 40, int := none, mp := none } where
  z := fun _ => by kernel_rfl
  s := fun _ => by kernel_rfl
  a := fun _ => by kernel_rfl
  f := fun f off h => match f, off, h with
      | 0, _, rfl => fun _ _ _ => by kernel_rfl
      | 1, _, rfl => fun _ _ _ => by kernel_rfl
      | 2, _, rfl => fun _ _ _ => by kernel_rfl
      | _ + 3, _, h => by simp at h
  g := fun len es h => by cases h
  c := fun e s h => by cases h
  m := fun x y h => ⟨Try.prog.fieldsOf 29, by kernel_rfl, fun _ => by kernel_rfl⟩
  b := fun h => absurd h (by decide)
  r := fun h => absurd h (by decide)
  i := by kernel_rfl
  k := fun k h => by cases h
  q := fun h => absurd h (by decide)
  p := fun k e h => by cases h

theorem ty30 : TyOk Try.prog 30 { zv := .agg #[.int .i64 0, .int .i64 0, .int .i64 0, .int .i64 0, .int .i64 0], size := 5, agg := true, flds := [0, 1, 2], fsz := [1, 1, 3], arr := none, slc := none, tag := 0, bytes := 40, int := none, mp := none } where
  z := fun _ => by kernel_rfl
  s := fun _ => by kernel_rfl
  a := fun _ => by kernel_rfl
  f := fun f off h => match f, off, h with
      | 0, _, rfl => fun _ _ _ => by kernel_rfl
      | 1, _, rfl => fun _ _ _ => by kernel_rfl
      | 2, _, rfl => fun _ _ _ => by kernel_rfl
      | _ + 3, _, h => by simp at h
  g := fun len es h => by cases h
  c := fun e s h => by cases h
  m := fun x y h => ⟨Try.prog.fieldsOf 30, by kernel_rfl, fun _ => by kernel_rfl⟩
  b := fun h => absurd h (by decide)
  r := fun h => absurd h (by decide)
  i := by kernel_rfl
  k := fun k h => by cases h
  q := fun h => absurd h (by decide)
  p := fun k e h => by cases h

theorem ty31 : TyOk Try.prog 31 { zv := .int .i64 0, size := 1, agg := false, flds := [], fsz := [], arr := none, slc := none, tag := 0, bytes := 8, int := some .i64, mp := none } where
  z := fun _ => by kernel_rfl
  s := fun _ => by kernel_rfl
  a := fun _ => by kernel_rfl
  f := fun f off h => by simp at h
  g := fun len es h => by cases h
  c := fun e s h => by cases h
  m := fun x y h => by cases h
  b := fun h => absurd h (by decide)
  r := fun h => absurd h (by decide)
  i := by kernel_rfl
  k := fun k h => by cases h; kernel_rfl
  q := fun h => absurd h (by decide)
  p := fun k e h => by cases h

theorem ty33 : TyOk Try.prog 33 { zv := .nilFunc, size := 1, agg := false, flds := [], fsz := [], arr := none, slc := none, tag := 3, bytes := 8, int := none, mp := none } where
  z := fun _ => by kernel_rfl
  s := fun _ => by kernel_rfl
  a := fun _ => by kernel_rfl
  f := fun f off h => by simp at h
  g := fun len es h => by cases h
  c := fun e s h => by cases h
  m := fun x y h => by cases h
  b := fun h => absurd h (by decide)
  r := fun h => absurd h (by decide)
  i := by kernel_rfl
  k := fun k h => by cases h
  q := fun _ => isFunc_of (by kernel_rfl)
  p := fun k e h => by cases h

theorem ty35 : TyOk Try.prog 35 { zv := .nilFunc, size := 1, agg := false, flds := [], fsz := [], arr := none, slc := none, tag := 3, bytes := 8, int := none, mp := none } where
  z := fun _ => by kernel_rfl
  s := fun _ => by kernel_rfl
  a := fun _ => by kernel_rfl
  f := fun f off h => by simp at h
  g := fun len es h => by cases h
  c := fun e s h => by cases h
  m := fun x y h => by cases h
  b := fun h => absurd h (by decide)
  r := fun h => absurd h (by decide)
  i := by kernel_rfl
  k := fun k h => by cases h
  q := fun _ => isFunc_of (by kernel_rfl)
  p := fun k e h => by cases h

theorem ty36 : TyOk Try.prog 36 { zv := .nilFunc, size := 1, agg := false, flds := [], fsz := [], arr := none, slc := none, tag := 3, bytes := 8, int := none, mp := none } where
  z := fun _ => by kernel_rfl
  s := fun _ => by kernel_rfl
  a := fun _ => by kernel_rfl
  f := fun f off h => by simp at h
  g := fun len es h => by cases h
  c := fun e s h => by cases h
  m := fun x y h => by cases h
  b := fun h => absurd h (by decide)
  r := fun h => absurd h (by decide)
  i := by kernel_rfl
  k := fun k h => by cases h
  q := fun _ => isFunc_of (by kernel_rfl)
  p := fun k e h => by cases h

theorem ty37 : TyOk Try.prog 37 { zv := .nilFunc, size := 1, agg := false, flds := [], fsz := [], arr := none, slc := none, tag := 3, bytes := 8, int := none, mp := none } where
  z := fun _ => by kernel_rfl
  s := fun _ => by kernel_rfl
  a := fun _ => by kernel_rfl
  f := fun f off h => by simp at h
  g := fun len es h => by cases h
  c := fun e s h => by cases h
  m := fun x y h => by cases h
  b := fun h => absurd h (by decide)
  r := fun h => absurd h (by decide)
  i := by kernel_rfl
  k := fun k h => by cases h
  q := fun _ => isFunc_of (by kernel_rfl)
  p := fun k e h => by cases h

theorem ty38 : TyOk Try.prog 38 { zv := .nilFunc, size := 1, agg := false, flds := [], fsz := [], arr := none, slc := none, tag := 3, bytes := 8, int := none, mp := none } where
  z := fun _ => by kernel_rfl
  s := fun _ => by kernel_rfl
  a := fun _ => by kernel_rfl
  f := fun f off h => by simp at h
  g := fun len es h => by cases h
  c := fun e s h => by cases h
  m := fun x y h => by cases h
  b := fun h => absurd h (by decide)
  r := fun h => absurd h (by decide)
  i := by kernel_rfl
  k := fun k h => by cases h
  q := fun _ => isFunc_of (by kernel_rfl)
  p := fun k e h => by cases h

theorem ty39 : TyOk Try.prog 39 { zv := .agg #[.int .i64 0, .int .i64 0, .int .i64 0, .int .i64 0, .int .i64 0, .int .i64 0, .int .i64 0, .int .i64 0, .int .i64 0, .int .i64 0], size := 10, agg := true, flds := [], fsz := [], arr := some (2, 5), slc := none, tag := 0, bytes := 80, int := none, mp := none } where
  z := fun _ => by kernel_rfl
  s := fun _ => by kernel_rfl
  a := fun _ => by kernel_rfl
  f := fun f off h => by simp at h
  g := fun len es h => by cases h; exact ⟨30, by kernel_rfl, fun _ => by kernel_rfl, fun h => absurd h (by decide)⟩
  c := fun e s h => by cases h
  m := fun x y h => by cases h
  b := fun h => absurd h (by decide)
  r := fun h => absurd h (by decide)
  i := by kernel_rfl
  k := fun k h => by cases h
  q := fun h => absurd h (by decide)
  p := fun k e h => by cases h

theorem ty40 : TyOk Try.prog 40 { zv := .nilFunc, size := 1, agg := false, flds := [], fsz := [], arr := none, slc := none, tag := 3, bytes := 8, int := none, mp := none } where
  z := fun _ => by kernel_rfl
  s := fun _ => by kernel_rfl
  a := fun _ => by kernel_rfl
  f := fun f off h => by simp at h
  g := fun len es h => by cases h
  c := fun e s h => by cases h
  m := fun x y h => by cases h
  b := fun h => absurd h (by decide)
  r := fun h => absurd h (by decide)
  i := by kernel_rfl
  k := fun k h => by cases h
  q := fun _ => isFunc_of (by kernel_rfl)
  p := fun k e h => by cases h

theorem ty41 : TyOk Try.prog 41 { zv := .nilFunc, size := 1, agg := false, flds := [], fsz := [], arr := none, slc := none, tag := 3, bytes := 8, int := none, mp := none } where
  z := fun _ => by kernel_rfl
  s := fun _ => by kernel_rfl
  a := fun _ => by kernel_rfl
  f := fun f off h => by simp at h
  g := fun len es h => by cases h
  c := fun e s h => by cases h
  m := fun x y h => by cases h
  b := fun h => absurd h (by decide)
  r := fun h => absurd h (by decide)
  i := by kernel_rfl
  k := fun k h => by cases h
  q := fun _ => isFunc_of (by kernel_rfl)
  p := fun k e h => by cases h

theorem ty42 : TyOk Try.prog 42 { zv := .nilFunc, size := 1, agg := false, flds := [], fsz := [], arr := none, slc := none, tag := 3, bytes := 8, int := none, mp := none } where
  z := fun _ => by kernel_rfl
  s := fun _ => by kernel_rfl
  a := fun _ => by kernel_rfl
  f := fun f off h => by simp at h
  g := fun len es h => by cases h
  c := fun e s h => by cases h
  m := fun x y h => by cases h
  b := fun h => absurd h (by decide)
  r := fun h => absurd h (by decide)
  i := by kernel_rfl
  k := fun k h => by cases h
  q := fun _ => isFunc_of (by kernel_rfl)
  p := fun k e h => by cases h

theorem ty43 : TyOk Try.prog 43 { zv := .nilFunc, size := 1, agg := false, flds := [], fsz := [], arr := none, slc := none, tag := 3, bytes := 8, int := none, mp := none } where
  z := fun _ => by kernel_rfl
  s := fun _ => by kernel_rfl
  a := fun _ => by kernel_rfl
  f := fun f off h => by simp at h
  g := fun len es h => by cases h
  c := fun e s h => by cases h
  m := fun x y h => by cases h
  b := fun h => absurd h (by decide)
  r := fun h => absurd h (by decide)
  i := by kernel_rfl
  k := fun k h => by cases h
  q := fun _ => isFunc_of (by kernel_rfl)
  p := fun k e h => by cases h

theorem ty44 : TyOk Try.prog 44 { zv := .nilFunc, size := 1, agg := false, flds := [], fsz := [], arr := none, slc := none, tag := 3, bytes := 8, int := none, mp := none } where
  z := fun _ => by kernel_rfl
  s := fun _ => by kernel_rfl
  a := fun _ => by kernel_rfl
  f := fun f off h => by simp at h
  g := fun len es h => by cases h
  c := fun e s h => by cases h
  m := fun x y h => by cases h
  b := fun h => absurd h (by decide)
  r := fun h => absurd h (by decide)
  i := by kernel_rfl
  k := fun k h => by cases h
  q := fun _ => isFunc_of (by kernel_rfl)
  p := fun k e h => by cases h

theorem ty45 : TyOk Try.prog 45 { zv := .nilFunc, size := 1, agg := false, flds := [], fsz := [], arr := none, slc := none, tag := 3, bytes := 8, int := none, mp := none } where
  z := fun _ => by kernel_rfl
  s := fun _ => by kernel_rfl
  a := fun _ => by kernel_rfl
  f := fun f off h => by simp at h
  g := fun len es h => by cases h
  c := fun e s h => by cases h
  m := fun x y h => by cases h
  b := fun h => absurd h (by decide)
  r := fun h => absurd h (by decide)
  i := by kernel_rfl
  k := fun k h => by cases h
  q := fun _ => isFunc_of (by kernel_rfl)
  p := fun k e h => by cases h

theorem ty46 : TyOk Try.prog 46 { zv := .nilFunc, size := 1, agg := false, flds := [], fsz := [], arr := none, slc := none, tag := 3, bytes := 8, int := none, mp := none } where
  z := fun _ => by kernel_rfl
  s := fun _ => by kernel_rfl
  a := fun _ => by kernel_rfl
  f := fun f off h => by simp at h
  g := fun len es h => by cases h
  c := fun e s h => by cases h
  m := fun x y h => by cases h
  b := fun h => absurd h (by decide)
  r := fun h => absurd h (by decide)
  i := by kernel_rfl
  k := fun k h => by cases h
  q := fun _ => isFunc_of (by kernel_rfl)
  p := fun k e h => by cases h

theorem ty47 : TyOk Try.prog 47 { zv := .nilFunc, size := 1, agg := false, flds := [], fsz := [], arr := none, slc := none, tag := 3, bytes := 8, int := none, mp := none } where
  z := fun _ => by kernel_rfl
  s := fun _ => by kernel_rfl
  a := fun _ => by kernel_rfl
  f := fun f off h => by simp at h
  g := fun len es h => by cases h
  c := fun e s h => by cases h
  m := fun x y h => by cases h
  b := fun h => absurd h (by decide)
  r := fun h => absurd h (by decide)
  i := by kernel_rfl
  k := fun k h => by cases h
  q := fun _ => isFunc_of (by kernel_rfl)
  p := fun k e h => by cases h

theorem ty49 : TyOk Try.prog 49 { zv := .nilFunc, size := 1, agg := false, flds := [], fsz := [], arr := none, slc := none, tag := 3, bytes := 8, int := none, mp := none } where
  z := fun _ => by kernel_rfl
  s := fun _ => by kernel_rfl
  a := fun _ => by kernel_rfl
  f := fun f off h => by simp at h
  g := fun len es h => by cases h
  c := fun e s h => by cases h
  m := fun x y h => by cases h
  b := fun h => absurd h (by decide)
  r := fun h => absurd h (by decide)
  i := by kernel_rfl
  k := fun k h => by cases h
  q := fun _ => isFunc_of (by kernel_rfl)
  p := fun k e h => by cases h

theorem ty50 : TyOk Try.prog 50 { zv := .slice none 0 0, size := 1, agg := false, flds := [], fsz := [], arr := none, slc := some (3, 1), tag := 0, bytes := 24, int := none, mp := none } where
  z := fun _ => by kernel_rfl
  s := fun _ => by kernel_rfl
  a := fun _ => by kernel_rfl
  f := fun f off h => by simp at h
  g := fun len es h => by cases h
  c := fun e s h => by cases h; exact ⟨by kernel_rfl, fun _ => by kernel_rfl⟩
  m := fun x y h => by cases h
  b := fun h => absurd h (by decide)
  r := fun h => absurd h (by decide)
  i := by kernel_rfl
  k := fun k h => by cases h
  q := fun h => absurd h (by decide)
  p := fun k e h => by cases h

theorem ty51 : TyOk Try.prog 51 { zv := .nilFunc, size := 1, agg := false, flds := [], fsz := [], arr := none, slc := none, tag := 3, bytes := 8, int := none, mp := none } where
  z := fun _ => by kernel_rfl
  s := fun _ => by kernel_rfl
  a := fun _ => by kernel_rfl
  f := fun f off h => by simp at h
  g := fun len es h => by cases h
  c := fun e s h => by cases h
  m := fun x y h => by cases h
  b := fun h => absurd h (by decide)
  r := fun h => absurd h (by decide)
  i := by kernel_rfl
  k := fun k h => by cases h
  q := fun _ => isFunc_of (by kernel_rfl)
  p := fun k e h => by cases h

theorem ty52 : TyOk Try.prog 52 { zv := .nilFunc, size := 1, agg := false, flds := [], fsz := [], arr := none, slc := none, tag := 3, bytes := 8, int := none, mp := none } where
  z := fun _ => by kernel_rfl
  s := fun _ => by kernel_rfl
  a := fun _ => by kernel_rfl
  f := fun f off h => by simp at h
  g := fun len es h => by cases h
  c := fun e s h => by cases h
  m := fun x y h => by cases h
  b := fun h => absurd h (by decide)
  r := fun h => absurd h (by decide)
  i := by kernel_rfl
  k := fun k h => by cases h
  q := fun _ => isFunc_of (by kernel_rfl)
  p := fun k e h => by cases h

theorem ty53 : TyOk Try.prog 53 { zv := .nilFunc, size := 1, agg := false, flds := [], fsz := [], arr := none, slc := none, tag := 3, bytes := 8, int := none, mp := none } where
  z := fun _ => by kernel_rfl
  s := fun _ => by kernel_rfl
  a := fun _ => by kernel_rfl
  f := fun f off h => by simp at h
  g := fun len es h => by cases h
  c := fun e s h => by cases h
  m := fun x y h => by cases h
  b := fun h => absurd h (by decide)
  r := fun h => absurd h (by decide)
  i := by kernel_rfl
  k := fun k h => by cases h
  q := fun _ => isFunc_of (by kernel_rfl)
  p := fun k e h => by cases h

theorem ty54 : TyOk Try.prog 54 { zv := .nilFunc, size := 1, agg := false, flds := [], fsz := [], arr := none, slc := none, tag := 3, bytes := 8, int := none, mp := none } where
  z := fun _ => by kernel_rfl
  s := fun _ => by kernel_rfl
  a := fun _ => by kernel_rfl
  f := fun f off h => by simp at h
  g := fun len es h => by cases h
  c := fun e s h => by cases h
  m := fun x y h => by cases h
  b := fun h => absurd h (by decide)
  r := fun h => absurd h (by decide)
  i := by kernel_rfl
  k := fun k h => by cases h
  q := fun _ => isFunc_of (by kernel_rfl)
  p := fun k e h => by cases h

theorem ty55 : TyOk Try.prog 55 { zv := .nilFunc, size := 1, agg := false, flds := [], fsz := [], arr := none, slc := none, tag := 3, bytes := 8, int := none, mp := none } where
  z := fun _ => by kernel_rfl
  s := fun _ => by kernel_rfl
  a := fun _ => by kernel_rfl
  f := fun f off h => by simp at h
  g := fun len es h => by cases h
  c := fun e s h => by cases h
  m := fun x y h => by cases h
  b := fun h => absurd h (by decide)
  r := fun h => absurd h (by decide)
  i := by kernel_rfl
  k := fun k h => by cases h
  q := fun _ => isFunc_of (by kernel_rfl)
  p := fun k e h => by cases h

theorem ty56 : TyOk Try.prog 56 { zv := .slice none 0 0, size := 1, agg := false, flds := [], fsz := [], arr := none, slc := some (50, 1), tag := 0, bytes := 24, int := none, mp := none } where
  z := fun _ => by kernel_rfl
  s := fun _ => by kernel_rfl
  a := fun _ => by kernel_rfl
  f := fun f off h => by simp at h
  g := fun len es h => by cases h
  c := fun e s h => by cases h; exact ⟨by kernel_rfl, fun _ => by kernel_rfl⟩
  m := fun x y h => by cases h
  b := fun h => absurd h (by decide)
  r := fun h => absurd h (by decide)
  i := by kernel_rfl
  k := fun k h => by cases h
  q := fun h => absurd h (by decide)
  p := fun k e h => by cases h

theorem ty57 : TyOk Try.prog 57 { zv := .nilFunc, size := 1, agg := false, flds := [], fsz := [], arr := none, slc := none, tag := 3, bytes := 8, int := none, mp := none } where
  z := fun _ => by kernel_rfl
  s := fun _ => by kernel_rfl
  a := fun _ => by kernel_rfl
  f := fun f off h => by simp at h
  g := fun len es h => by cases h
  c := fun e s h => by cases h
  m := fun x y h => by cases h
  b := fun h => absurd h (by decide)
  r := fun h => absurd h (by decide)
  i := by kernel_rfl
  k := fun k h => by cases h
  q := fun _ => isFunc_of (by kernel_rfl)
  p := fun k e h => by cases h

theorem ty58 : TyOk Try.prog 58 { zv := .nilFunc, size := 1, agg := false, flds := [], fsz := [], arr := none, slc := none, tag := 3, bytes := 8, int := none, mp := none } where
  z := fun _ => by kernel_rfl
  s := fun _ => by kernel_rfl
  a := fun _ => by kernel_rfl
  f := fun f off h => by simp at h
  g := fun len es h => by cases h
  c := fun e s h => by cases h
  m := fun x y h => by cases h
  b := fun h => absurd h (by decide)
  r := fun h => absurd h (by decide)
  i := by kernel_rfl
  k := fun k h => by cases h
  q := fun _ => isFunc_of (by kernel_rfl)
  p := fun k e h => by cases h

theorem ty59 : TyOk Try.prog 59 { zv := .nilFunc, size := 1, agg := false, flds := [], fsz := [], arr := none, slc := none, tag := 3, bytes := 8, int := none, mp := none } where
  z := fun _ => by kernel_rfl
  s := fun _ => by kernel_rfl
  a := fun _ => by kernel_rfl
  f := fun f off h => by simp at h
  g := fun len es h => by cases h
  c := fun e s h => by cases h
  m := fun x y h => by cases h
  b := fun h => absurd h (by decide)
  r := fun h => absurd h (by decide)
  i := by kernel_rfl
  k := fun k h => by cases h
  q := fun _ => isFunc_of (by kernel_rfl)
  p := fun k e h => by cases h

theorem ty60 : TyOk Try.prog 60 { zv := .nilFunc, size := 1, agg := false, flds := [], fsz := [], arr := none, slc := none, tag := 3, bytes := 8, int := none, mp := none } where
  z := fun _ => by kernel_rfl
  s := fun _ => by kernel_rfl
  a := fun _ => by kernel_rfl
  f := fun f off h => by simp at h
  g := fun len es h => by cases h
  c := fun e s h => by cases h
  m := fun x y h => by cases h
  b := fun h => absurd h (by decide)
  r := fun h => absurd h (by decide)
  i := by kernel_rfl
  k := fun k h => by cases h
  q := fun _ => isFunc_of (by kernel_rfl)
  p := fun k e h => by cases h

theorem ty66 : TyOk Try.prog 66 { zv := .nilFunc, size := 1, agg := false, flds := [], fsz := [], arr := none, slc := none, tag := 3, bytes := 8, int := none, mp := none } where
  z := fun _ => by kernel_rfl
  s := fun _ => by kernel_rfl
  a := fun _ => by kernel_rfl
  f := fun f off h => by simp at h
  g := fun len es h => by cases h
  c := fun e s h => by cases h
  m := fun x y h => by cases h
  b := fun h => absurd h (by decide)
  r := fun h => absurd h (by decide)
  i := by kernel_rfl
  k := fun k h => by cases h
  q := fun _ => isFunc_of (by kernel_rfl)
  p := fun k e h => by cases h

theorem ty67 : TyOk Try.prog 67 { zv := .int .u32 0, size := 1, agg := false, flds := [], fsz := [], arr := none, slc := none, tag := 0, bytes := 4, int := some .u32, mp := none } where
  z := fun _ => by kernel_rfl
  s := fun _ => by kernel_rfl
  a := fun _ => by kernel_rfl
  f := fun f off h => by simp at h
  g := fun len es h => by cases h
  c := fun e s h => by cases h
  m := fun x y h => by cases h
  b := fun h => absurd h (by decide)
  r := fun h => absurd h (by decide)
  i := by kernel_rfl
  k := fun k h => by cases h; kernel_rfl
  q := fun h => absurd h (by decide)
  p := fun k e h => by cases h

theorem ty70 : TyOk Try.prog 70 { zv := .nilFunc, size := 1, agg := false, flds := [], fsz := [], arr := none, slc := none, tag := 3, bytes := 8, int := none, mp := none } where
  z := fun _ => by kernel_rfl
  s := fun _ => by kernel_rfl
  a := fun _ => by kernel_rfl
  f := fun f off h => by simp at h
  g := fun len es h => by cases h
  c := fun e s h => by cases h
  m := fun x y h => by cases h
  b := fun h => absurd h (by decide)
  r := fun h => absurd h (by decide)
  i := by kernel_rfl
  k := fun k h => by cases h
  q := fun _ => isFunc_of (by kernel_rfl)
  p := fun k e h => by cases h

theorem ty71 : TyOk Try.prog 71 { zv := .pointer none, size := 1, agg := false, flds := [], fsz := [], arr := none, slc := none, tag := 0, bytes := 8, int := none, mp := none } where
  z := fun _ => by kernel_rfl
  s := fun _ => by kernel_rfl
  a := fun _ => by kernel_rfl
  f := fun f off h => by simp at h
  g := fun len es h => by cases h
  c := fun e s h => by cases h
  m := fun x y h => by cases h
  b := fun h => absurd h (by decide)
  r := fun h => absurd h (by decide)
  i := by kernel_rfl
  k := fun k h => by cases h
  q := fun h => absurd h (by decide)
  p := fun k e h => by cases h

def ent : Nat → Option Ty
  | 1 => some { zv := .nilFunc, size := 1, agg := false, flds := [], fsz := [], arr := none, slc := none, tag := 3, bytes := 8, int := none, mp := none }
  | 2 => some { zv := .int .i64 0, size := 1, agg := false, flds := [], fsz := [], arr := none, slc := none, tag := 0, bytes := 8, int := some .i64, mp := none }
  | 3 => some { zv := .int .i64 0, size := 1, agg := false, flds := [], fsz := [], arr := none, slc := none, tag := 0, bytes := 8, int := some .i64, mp := none }
  | 4 => some { zv := .bool false, size := 1, agg := false, flds := [], fsz := [], arr := none, slc := none, tag := 1, bytes := 1, int := none, mp := none }
  | 5 => some { zv := .int .u8 0, size := 1, agg := false, flds := [], fsz := [], arr := none, slc := none, tag := 0, bytes := 1, int := some .u8, mp := none }
  | 9 => some { zv := .string ⟨#[]⟩, size := 1, agg := false, flds := [], fsz := [], arr := none, slc := none, tag := 2, bytes := 16, int := none, mp := none }
  | 12 => some { zv := .int .u64 0, size := 1, agg := false, flds := [], fsz := [], arr := none, slc := none, tag := 0, bytes := 8, int := some .u64, mp := none }
  | 20 => some { zv := .nilIface, size := 1, agg := false, flds := [], fsz := [], arr := none, slc := none, tag := 0, bytes := 16, int := none, mp := none }
  | 21 => some { zv := .int .i32 0, size := 1, agg := false, flds := [], fsz := [], arr := none, slc := none, tag := 0, bytes := 4, int := some .i32, mp := none }
  | 22 => some { zv := .agg #[.int .i64 0, .int .i64 0, .int .i64 0], size := 3, agg := true, flds := [], fsz := [], arr := some (3, 1), slc := none, tag := 0, bytes := 24, int := none, mp := none }
  | 23 => some { zv := .agg #[.int .i64 0, .int .i64 0, .int .i64 0, .int .i64 0, .int .i64 0, .int .i64 0, .int .i64 0], size := 7, agg := true, flds := [0, 1, 2, 3, 4], fsz := [1, 1, 1, 1, 3], arr := none, slc := none, tag := 0, bytes := 56, int := none, mp := none }
  | 24 => some { zv := .agg #[.int .i64 0, .int .i64 0, .int .i64 0, .int .i64 0, .int .i64 0, .int .i64 0, .int .i64 0], size := 7, agg := true, flds := [0, 1, 2, 3, 4], fsz := [1, 1, 1, 1, 3], arr := none, slc := none, tag := 0, bytes := 56, int := none, mp := none }
  | 25 => some { zv := .nilFunc, size := 1, agg := false, flds := [], fsz := [], arr := none, slc := none, tag := 3, bytes := 8, int := none, mp := none }
  | 26 => some { zv := .nilFunc, size := 1, agg := false, flds := [], fsz := [], arr := none, slc := none, tag := 3, bytes := 8, int := none, mp := none }
  | 27 => some { zv := .nilFunc, size := 1, agg := false, flds := [], fsz := [], arr := none, slc := none, tag := 3, bytes := 8, int := none, mp := none }
  | 28 => some { zv := .nilFunc, size := 1, agg := false, flds := [], fsz := [], arr := none, slc := none, tag := 3, bytes := 8, int := none, mp := none }
  | 29 => some { zv := .agg #[.int .i64 0, .int .i64 0, .int .i64 0, .int .i64 0, .int .i64 0], size := 5, agg := true, flds := [0, 1, 2], fsz := [1, 1, 3], arr := none, slc := none, tag := 0, bytes := 40, int := none, mp := none }
  | 30 => some { zv := .agg #[.int .i64 0, .int .i64 0, .int .i64 0, .int .i64 0, .int .i64 0], size := 5, agg := true, flds := [0, 1, 2], fsz := [1, 1, 3], arr := none, slc := none, tag := 0, bytes := 40, int := none, mp := none }
  | 31 => some { zv := .int .i64 0, size := 1, agg := false, flds := [], fsz := [], arr := none, slc := none, tag := 0, bytes := 8, int := some .i64, mp := none }
  | 33 => some { zv := .nilFunc, size := 1, agg := false, flds := [], fsz := [], arr := none, slc := none, tag := 3, bytes := 8, int := none, mp := none }
  | 35 => some { zv := .nilFunc, size := 1, agg := false, flds := [], fsz := [], arr := none, slc := none, tag := 3, bytes := 8, int := none, mp := none }
  | 36 => some { zv := .nilFunc, size := 1, agg := false, flds := [], fsz := [], arr := none, slc := none, tag := 3, bytes := 8, int := none, mp := none }
  | 37 => some { zv := .nilFunc, size := 1, agg := false, flds := [], fsz := [], arr := none, slc := none, tag := 3, bytes := 8, int := none, mp := none }
  | 38 => some { zv := .nilFunc, size := 1, agg := false, flds := [], fsz := [], arr := none, slc := none, tag := 3, bytes := 8, int := none, mp := none }
  | 39 => some { zv := .agg #[.int .i64 0, .int .i64 0, .int .i64 0, .int .i64 0, .int .i64 0, .int .i64 0, .int .i64 0, .int .i64 0, .int .i64 0, .int .i64 0], size := 10, agg := true, flds := [], fsz := [], arr := some (2, 5), slc := none, tag := 0, bytes := 80, int := none, mp := none }
  | 40 => some { zv := .nilFunc, size := 1, agg := false, flds := [], fsz := [], arr := none, slc := none, tag := 3, bytes := 8, int := none, mp := none }
  | 41 => some { zv := .nilFunc, size := 1, agg := false, flds := [], fsz := [], arr := none, slc := none, tag := 3, bytes := 8, int := none, mp := none }
  | 42 => some { zv := .nilFunc, size := 1, agg := false, flds := [], fsz := [], arr := none, slc := none, tag := 3, bytes := 8, int := none, mp := none }
  | 43 => some { zv := .nilFunc, size := 1, agg := false, flds := [], fsz := [], arr := none, slc := none, tag := 3, bytes := 8, int := none, mp := none }
  | 44 => some { zv := .nilFunc, size := 1, agg := false, flds := [], fsz := [], arr := none, slc := none, tag := 3, bytes := 8, int := none, mp := none }
  | 45 => some { zv := .nilFunc, size := 1, agg := false, flds := [], fsz := [], arr := none, slc := none, tag := 3, bytes := 8, int := none, mp := none }
  | 46 => some { zv := .nilFunc, size := 1, agg := false, flds := [], fsz := [], arr := none, slc := none, tag := 3, bytes := 8, int := none, mp := none }
  | 47 => some { zv := .nilFunc, size := 1, agg := false, flds := [], fsz := [], arr := none, slc := none, tag := 3, bytes := 8, int := none, mp := none }
  | 49 => some { zv := .nilFunc, size := 1, agg := false, flds := [], fsz := [], arr := none, slc := none, tag := 3, bytes := 8, int := none, mp := none }
  | 50 => some { zv := .slice none 0 0, size := 1, agg := false, flds := [], fsz := [], arr := none, slc := some (3, 1), tag := 0, bytes := 24, int := none, mp := none }
  | 51 => some { zv := .nilFunc, size := 1, agg := false, flds := [], fsz := [], arr := none, slc := none, tag := 3, bytes := 8, int := none, mp := none }
  | 52 => some { zv := .nilFunc, size := 1, agg := false, flds := [], fsz := [], arr := none, slc := none, tag := 3, bytes := 8, int := none, mp := none }
  | 53 => some { zv := .nilFunc, size := 1, agg := false, flds := [], fsz := [], arr := none, slc := none, tag := 3, bytes := 8, int := none, mp := none }
  | 54 => some { zv := .nilFunc, size := 1, agg := false, flds := [], fsz := [], arr := none, slc := none, tag := 3, bytes := 8, int := none, mp := none }
  | 55 => some { zv := .nilFunc, size := 1, agg := false, flds := [], fsz := [], arr := none, slc := none, tag := 3, bytes := 8, int := none, mp := none }
  | 56 => some { zv := .slice none 0 0, size := 1, agg := false, flds := [], fsz := [], arr := none, slc := some (50, 1), tag := 0, bytes := 24, int := none, mp := none }
  | 57 => some { zv := .nilFunc, size := 1, agg := false, flds := [], fsz := [], arr := none, slc := none, tag := 3, bytes := 8, int := none, mp := none }
  | 58 => some { zv := .nilFunc, size := 1, agg := false, flds := [], fsz := [], arr := none, slc := none, tag := 3, bytes := 8, int := none, mp := none }
  | 59 => some { zv := .nilFunc, size := 1, agg := false, flds := [], fsz := [], arr := none, slc := none, tag := 3, bytes := 8, int := none, mp := none }
  | 60 => some { zv := .nilFunc, size := 1, agg := false, flds := [], fsz := [], arr := none, slc := none, tag := 3, bytes := 8, int := none, mp := none }
  | 66 => some { zv := .nilFunc, size := 1, agg := false, flds := [], fsz := [], arr := none, slc := none, tag := 3, bytes := 8, int := none, mp := none }
  | 67 => some { zv := .int .u32 0, size := 1, agg := false, flds := [], fsz := [], arr := none, slc := none, tag := 0, bytes := 4, int := some .u32, mp := none }
  | 70 => some { zv := .nilFunc, size := 1, agg := false, flds := [], fsz := [], arr := none, slc := none, tag := 3, bytes := 8, int := none, mp := none }
  | 71 => some { zv := .pointer none, size := 1, agg := false, flds := [], fsz := [], arr := none, slc := none, tag := 0, bytes := 8, int := none, mp := none }
  | _ => none
theorem ent_ok : ∀ T t, ent T = some t → TyOk Try.prog T t := by
  intro T t h
  unfold ent at h
  split at h
  · cases h; exact ty1
  · cases h; exact ty2
  · cases h; exact ty3
  · cases h; exact ty4
  · cases h; exact ty5
  · cases h; exact ty9
  · cases h; exact ty12
  · cases h; exact ty20
  · cases h; exact ty21
  · cases h; exact ty22
  · cases h; exact ty23
  · cases h; exact ty24
  · cases h; exact ty25
  · cases h; exact ty26
  · cases h; exact ty27
  · cases h; exact ty28
  · cases h; exact ty29
  · cases h; exact ty30
  · cases h; exact ty31
  · cases h; exact ty33
  · cases h; exact ty35
  · cases h; exact ty36
  · cases h; exact ty37
  · cases h; exact ty38
  · cases h; exact ty39
  · cases h; exact ty40
  · cases h; exact ty41
  · cases h; exact ty42
  · cases h; exact ty43
  · cases h; exact ty44
  · cases h; exact ty45
  · cases h; exact ty46
  · cases h; exact ty47
  · cases h; exact ty49
  · cases h; exact ty50
  · cases h; exact ty51
  · cases h; exact ty52
  · cases h; exact ty53
  · cases h; exact ty54
  · cases h; exact ty55
  · cases h; exact ty56
  · cases h; exact ty57
  · cases h; exact ty58
  · cases h; exact ty59
  · cases h; exact ty60
  · cases h; exact ty66
  · cases h; exact ty67
  · cases h; exact ty70
  · cases h; exact ty71
  · cases h
theorem eq22 : flatN Try.prog 5 22 = some 3 := by kernel_rfl
theorem eq23 : flatN Try.prog 5 23 = some 7 := by kernel_rfl
theorem eq24 : flatN Try.prog 5 24 = some 7 := by kernel_rfl
theorem eq29 : flatN Try.prog 5 29 = some 5 := by kernel_rfl
theorem eq30 : flatN Try.prog 5 30 = some 5 := by kernel_rfl
theorem eq39 : flatN Try.prog 5 39 = some 10 := by kernel_rfl
def eqs : Nat → Bool
  | 22 => true
  | 23 => true
  | 24 => true
  | 29 => true
  | 30 => true
  | 39 => true
  | _ => false
theorem eqs_ok : ∀ T t xs ys r, eqs T = true → ent T = some t → xs.length = t.size → cmpInts xs ys = some r → EqAt Try.prog T (.agg xs.toArray) (.agg ys.toArray) r := by
  intro T t xs ys r h ht hl hc
  unfold eqs at h
  split at h
  · cases ht; exact eqAt_flat eq22 (by decide) (by kernel_rfl) (fun _ => by kernel_rfl) hl hc
  · cases ht; exact eqAt_flat eq23 (by decide) (by kernel_rfl) (fun _ => by kernel_rfl) hl hc
  · cases ht; exact eqAt_flat eq24 (by decide) (by kernel_rfl) (fun _ => by kernel_rfl) hl hc
  · cases ht; exact eqAt_flat eq29 (by decide) (by kernel_rfl) (fun _ => by kernel_rfl) hl hc
  · cases ht; exact eqAt_flat eq30 (by decide) (by kernel_rfl) (fun _ => by kernel_rfl) hl hc
  · cases ht; exact eqAt_flat eq39 (by decide) (by kernel_rfl) (fun _ => by kernel_rfl) hl hc
  · cases h
noncomputable def C : Ctx := { P := Try.prog, ent := ent, ok := ent_ok, mixed := by kernel_rfl, eqs := eqs, eqok := eqs_ok }
end Go.Proofs.Ytjnihfmmmadlhaa
