/- The types of this seat, for the rules: each row a closed fact. Written by gentab2.py. -/
import Derived.Test.YtpfjolckhlgodaaDoorWd
import Derived.Test.YtpfjolckhlgodaaDoorWf
import Derived.Test.YtpfjolckhlgodaaDoorProg
import Derived.KernelRfl
namespace Go.Proofs.YtpfjolckhlgodaaDoor
open Go Go.RowKit
theorem ty1 : TyOk Tryd.prog 1 { zv := .nilFunc, size := 1, agg := false, flds := [], fsz := [], arr := none, slc := none, tag := 3, bytes := 8, int := none, mp := none } where
  z := fun _ => by kernel_rfl
  s := fun _ => by kernel_rfl
  a := fun _ => by kernel_rfl
  f := fun f off h => by simp at h
  g := fun len es h => by cases h
  c := fun e s h => by cases h
  m := fun x y h => by cases h
  b := fun h => absurd h (by decide)
  r := fun h => absurd h (by decide)
  i := by kernel_rfl
  k := fun k h => by cases h
  q := fun _ => isFunc_of (by kernel_rfl)
  p := fun k e h => by cases h

theorem ty2 : TyOk Tryd.prog 2 { zv := .int .i64 0, size := 1, agg := false, flds := [], fsz := [], arr := none, slc := none, tag := 0, bytes := 8, int := some .i64, mp := none } where
  z := fun _ => by kernel_rfl
  s := fun _ => by kernel_rfl
  a := fun _ => by kernel_rfl
  f := fun f off h => by simp at h
  g := fun len es h => by cases h
  c := fun e s h => by cases h
  m := fun x y h => by cases h
  b := fun h => absurd h (by decide)
  r := fun h => absurd h (by decide)
  i := by kernel_rfl
  k := fun k h => by cases h; kernel_rfl
  q := fun h => absurd h (by decide)
  p := fun k e h => by cases h

theorem ty3 : TyOk Tryd.prog 3 { zv := .int .i64 0, size := 1, agg := false, flds := [], fsz := [], arr := none, slc := none, tag := 0, bytes := 8, int := some .i64, mp := none } where
  z := fun _ => by kernel_rfl
  s := fun _ => by kernel_rfl
  a := fun _ => by kernel_rfl
  f := fun f off h => by simp at h
  g := fun len es h => by cases h
  c := fun e s h => by cases h
  m := fun x y h => by cases h
  b := fun h => absurd h (by decide)
  r := fun h => absurd h (by decide)
  i := by kernel_rfl
  k := fun k h => by cases h; kernel_rfl
  q := fun h => absurd h (by decide)
  p := fun k e h => by cases h

theorem ty4 : TyOk Tryd.prog 4 { zv := .bool false, size := 1, agg := false, flds := [], fsz := [], arr := none, slc := none, tag := 1, bytes := 1, int := none, mp := none } where
  z := fun _ => by kernel_rfl
  s := fun _ => by kernel_rfl
  a := fun _ => by kernel_rfl
  f := fun f off h => by simp at h
  g := fun len es h => by cases h
  c := fun e s h => by cases h
  m := fun x y h => by cases h
  b := fun _ => by kernel_rfl
  r := fun h => absurd h (by decide)
  i := by kernel_rfl
  k := fun k h => by cases h
  q := fun h => absurd h (by decide)
  p := fun k e h => by cases h

theorem ty5 : TyOk Tryd.prog 5 { zv := .int .u8 0, size := 1, agg := false, flds := [], fsz := [], arr := none, slc := none, tag := 0, bytes := 1, int := some .u8, mp := none } where
  z := fun _ => by kernel_rfl
  s := fun _ => by kernel_rfl
  a := fun _ => by kernel_rfl
  f := fun f off h => by simp at h
  g := fun len es h => by cases h
  c := fun e s h => by cases h
  m := fun x y h => by cases h
  b := fun h => absurd h (by decide)
  r := fun h => absurd h (by decide)
  i := by kernel_rfl
  k := fun k h => by cases h; kernel_rfl
  q := fun h => absurd h (by decide)
  p := fun k e h => by cases h

theorem ty9 : TyOk Tryd.prog 9 { zv := .string ⟨#[]⟩, size := 1, agg := false, flds := [], fsz := [], arr := none, slc := none, tag := 2, bytes := 16, int := none, mp := none } where
  z := fun _ => by kernel_rfl
  s := fun _ => by kernel_rfl
  a := fun _ => by kernel_rfl
  f := fun f off h => by simp at h
  g := fun len es h => by cases h
  c := fun e s h => by cases h
  m := fun x y h => by cases h
  b := fun h => absurd h (by decide)
  r := fun _ => by kernel_rfl
  i := by kernel_rfl
  k := fun k h => by cases h
  q := fun h => absurd h (by decide)
  p := fun k e h => by cases h

theorem ty12 : TyOk Tryd.prog 12 { zv := .int .u64 0, size := 1, agg := false, flds := [], fsz := [], arr := none, slc := none, tag := 0, bytes := 8, int := some .u64, mp := none } where
  z := fun _ => by kernel_rfl
  s := fun _ => by kernel_rfl
  a := fun _ => by kernel_rfl
  f := fun f off h => by simp at h
  g := fun len es h => by cases h
  c := fun e s h => by cases h
  m := fun x y h => by cases h
  b := fun h => absurd h (by decide)
  r := fun h => absurd h (by decide)
  i := by kernel_rfl
  k := fun k h => by cases h; kernel_rfl
  q := fun h => absurd h (by decide)
  p := fun k e h => by cases h

theorem ty20 : TyOk Tryd.prog 20 { zv := .nilIface, size := 1, agg := false, flds := [], fsz := [], arr := none, slc := none, tag := 0, bytes := 16, int := none, mp := none } where
  z := fun _ => by kernel_rfl
  s := fun _ => by kernel_rfl
  a := fun _ => by kernel_rfl
  f := fun f off h => by simp at h
  g := fun len es h => by cases h
  c := fun e s h => by cases h
  m := fun x y h => by cases h
  b := fun h => absurd h (by decide)
  r := fun h => absurd h (by decide)
  i := by kernel_rfl
  k := fun k h => by cases h
  q := fun h => absurd h (by decide)
  p := fun k e h => by cases h

theorem ty21 : TyOk Tryd.prog 21 { zv := .int .i32 0, size := 1, agg := false, flds := [], fsz := [], arr := none, slc := none, tag := 0, bytes := 4, int := some .i32, mp := none } where
  z := fun _ => by kernel_rfl
  s := fun _ => by kernel_rfl
  a := fun _ => by kernel_rfl
  f := fun f off h => by simp at h
  g := fun len es h => by cases h
  c := fun e s h => by cases h
  m := fun x y h => by cases h
  b := fun h => absurd h (by decide)
  r := fun h => absurd h (by decide)
  i := by kernel_rfl
  k := fun k h => by cases h; kernel_rfl
  q := fun h => absurd h (by decide)
  p := fun k e h => by cases h

theorem ty22 : TyOk Tryd.prog 22 { zv := .nilFunc, size := 1, agg := false, flds := [], fsz := [], arr := none, slc := none, tag := 3, bytes := 8, int := none, mp := none } where
  z := fun _ => by kernel_rfl
  s := fun _ => by kernel_rfl
  a := fun _ => by kernel_rfl
  f := fun f off h => by simp at h
  g := fun len es h => by cases h
  c := fun e s h => by cases h
  m := fun x y h => by cases h
  b := fun h => absurd h (by decide)
  r := fun h => absurd h (by decide)
  i := by kernel_rfl
  k := fun k h => by cases h
  q := fun _ => isFunc_of (by kernel_rfl)
  p := fun k e h => by cases h

theorem ty23 : TyOk Tryd.prog 23 { zv := .slice none 0 0, size := 1, agg := false, flds := [], fsz := [], arr := none, slc := some (31, 6), tag := 0, bytes := 24, int := none, mp := none } where
  z := fun _ => by kernel_rfl
  s := fun _ => by kernel_rfl
  a := fun _ => by kernel_rfl
  f := fun f off h => by simp at h
  g := fun len es h => by cases h
  c := fun e s h => by cases h; exact ⟨by kernel_rfl, fun _ => by kernel_rfl⟩
  m := fun x y h => by cases h
  b := fun h => absurd h (by decide)
  r := fun h => absurd h (by decide)
  i := by kernel_rfl
  k := fun k h => by cases h
  q := fun h => absurd h (by decide)
  p := fun k e h => by cases h

theorem ty24 : TyOk Tryd.prog 24 { zv := .int .i64 0, size := 1, agg := false, flds := [], fsz := [], arr := none, slc := none, tag := 0, bytes := 8, int := some .i64, mp := none } where
  z := fun _ => by kernel_rfl
  s := fun _ => by kernel_rfl
  a := fun _ => by kernel_rfl
  f := fun f off h => by simp at h
  g := fun len es h => by cases h
  c := fun e s h => by cases h
  m := fun x y h => by cases h
  b := fun h => absurd h (by decide)
  r := fun h => absurd h (by decide)
  i := by kernel_rfl
  k := fun k h => by cases h; kernel_rfl
  q := fun h => absurd h (by decide)
  p := fun k e h => by cases h

theorem ty26 : TyOk Tryd.prog 26 { zv := .nilFunc, size := 1, agg := false, flds := [], fsz := [], arr := none, slc := none, tag := 3, bytes := 8, int := none, mp := none } where
  z := fun _ => by kernel_rfl
  s := fun _ => by kernel_rfl
  a := fun _ => by kernel_rfl
  f := fun f off h => by simp at h
  g := fun len es h => by cases h
  c := fun e s h => by cases h
  m := fun x y h => by cases h
  b := fun h => absurd h (by decide)
  r := fun h => absurd h (by decide)
  i := by kernel_rfl
  k := fun k h => by cases h
  q := fun _ => isFunc_of (by kernel_rfl)
  p := fun k e h => by cases h

theorem ty27 : TyOk Tryd.prog 27 { zv := .nilFunc, size := 1, agg := false, flds := [], fsz := [], arr := none, slc := none, tag := 3, bytes := 8, int := none, mp := none } where
  z := fun _ => by kernel_rfl
  s := fun _ => by kernel_rfl
  a := fun _ => by kernel_rfl
  f := fun f off h => by simp at h
  g := fun len es h => by cases h
  c := fun e s h => by cases h
  m := fun x y h => by cases h
  b := fun h => absurd h (by decide)
  r := fun h => absurd h (by decide)
  i := by kernel_rfl
  k := fun k h => by cases h
  q := fun _ => isFunc_of (by kernel_rfl)
  p := fun k e h => by cases h

theorem ty28 : TyOk Tryd.prog 28 { zv := .nilFunc, size := 1, agg := false, flds := [], fsz := [], arr := none, slc := none, tag := 3, bytes := 8, int := none, mp := none } where
  z := fun _ => by kernel_rfl
  s := fun _ => by kernel_rfl
  a := fun _ => by kernel_rfl
  f := fun f off h => by simp at h
  g := fun len es h => by cases h
  c := fun e s h => by cases h
  m := fun x y h => by cases h
  b := fun h => absurd h (by decide)
  r := fun h => absurd h (by decide)
  i := by kernel_rfl
  k := fun k h => by cases h
  q := fun _ => isFunc_of (by kernel_rfl)
  p := fun k e h => by cases h

theorem ty29 : TyOk Tryd.prog 29 { zv := .slice none 0 0, size := 1, agg := false, flds := [], fsz := [], arr := none, slc := some (42, 2), tag := 0, bytes := 24, int := none, mp := none } where
  z := fun _ => by kernel_rfl
  s := fun _ => by kernel_rfl
  a := fun _ => by kernel_rfl
  f := fun f off h => by simp at h
  g := fun len es h => by cases h
  c := fun e s h => by cases h; exact ⟨by kernel_rfl, fun _ => by kernel_rfl⟩
  m := fun x y h => by cases h
  b := fun h => absurd h (by decide)
  r := fun h => absurd h (by decide)
  i := by kernel_rfl
  k := fun k h => by cases h
  q := fun h => absurd h (by decide)
  p := fun k e h => by cases h

theorem ty30 : TyOk Tryd.prog 30 { zv := .agg #[.int .i64 0, .int .i64 0, .int .i64 0, .int .i64 0, .int .i64 0, .slice none 0 0], size := 6, agg := true, flds := [0, 1, 2, 3, 4, 5], fsz := [1, 1, 1, 1, 1, 1], arr := none, slc := none, tag := 0, bytes := 64, int := none, mp := none } where
  z := fun _ => by kernel_rfl
  s := fun _ => by kernel_rfl
  a := fun _ => by kernel_rfl
  f := fun f off h => match f, off, h with
      | 0, _, rfl => fun _ _ _ => by kernel_rfl
      | 1, _, rfl => fun _ _ _ => by kernel_rfl
      | 2, _, rfl => fun _ _ _ => by kernel_rfl
      | 3, _, rfl => fun _ _ _ => by kernel_rfl
      | 4, _, rfl => fun _ _ _ => by kernel_rfl
      | 5, _, rfl => fun _ _ _ => by kernel_rfl
      | _ + 6, _, h => by simp at h
  g := fun len es h => by cases h
  c := fun e s h => by cases h
  m := fun x y h => ⟨Tryd.prog.fieldsOf 30, by kernel_rfl, fun _ => by kernel_rfl⟩
  b := fun h => absurd h (by decide)
  r := fun h => absurd h (by decide)
  i := by kernel_rfl
  k := fun k h => by cases h
  q := fun h => absurd h (by decide)
  p := fun k e h => by cases h

theorem ty31 : TyOk Tryd.prog 31 { zv := .agg #[.int .i64 0, .int .i64 0, .int .i64 0, .int .i64 0, .int .i64 0, .slice none 0 0], size := 6, agg := true, flds := [0, 1, 2, 3, 4, 5], fsz := [1, 1, 1, 1, 1, 1], arr := none, slc := none, tag := 0, bytes := 64, int := none, mp := none } where
  z := fun _ => by kernel_rfl
  s := fun _ => by kernel_rfl
  a := fun _ => by kernel_rfl
  f := fun f off h => match f, off, h with
      | 0, _, rfl => fun _ _ _ => by kernel_rfl
      | 1, _, rfl => fun _ _ _ => by kernel_rfl
      | 2, _, rfl => fun _ _ _ => by kernel_rfl
      | 3, _, rfl => fun _ _ _ => by kernel_rfl
      | 4, _, rfl => fun _ _ _ => by kernel_rfl
      | 5, _, rfl => fun _ _ _ => by kernel_rfl
      | _ + 6, _, h => by simp at h
  g := fun len es h => by cases h
  c := fun e s h => by cases h
  m := fun x y h => ⟨Tryd.prog.fieldsOf 31, by kernel_rfl, fun _ => by kernel_rfl⟩
  b := fun h => absurd h (by decide)
  r := fun h => absurd h (by decide)
  i := by kernel_rfl
  k := fun k h => by cases h
  q := fun h => absurd h (by decide)
  p := fun k e h => by cases h

theorem ty32 : TyOk Tryd.prog 32 { zv := .nilFunc, size := 1, agg := false, flds := [], fsz := [], arr := none, slc := none, tag := 3, bytes := 8, int := none, mp := none } where
  z := fun _ => by kernel_rfl
  s := fun _ => by kernel_rfl
  a := fun _ => by kernel_rfl
  f := fun f off h => by simp at h
  g := fun len es h => by cases h
  c := fun e s h => by cases h
  m := fun x y h => by cases h
  b := fun h => absurd h (by decide)
  r := fun h => absurd h (by decide)
  i := by kernel_rfl
  k := fun k h => by cases h
  q := fun _ => isFunc_of (by kernel_rfl)
  p := fun k e h => by cases h

theorem ty33 : TyOk Tryd.prog 33 { zv := .nilFunc, size := 1, agg := false, flds := [], fsz := [], arr := none, slc := none, tag := 3, bytes := 8, int := none, mp := none } where
  z := fun _ => by kernel_rfl
  s := fun _ => by kernel_rfl
  a := fun _ => by kernel_rfl
  f := fun f off h => by simp at h
  g := fun len es h => by cases h
  c := fun e s h => by cases h
  m := fun x y h => by cases h
  b := fun h => absurd h (by decide)
  r := fun h => absurd h (by decide)
  i := by kernel_rfl
  k := fun k h => by cases h
  q := fun _ => isFunc_of (by kernel_rfl)
  p := fun k e h => by cases h

theorem ty34 : TyOk Tryd.prog 34 { zv := .nilFunc, size := 1, agg := false, flds := [], fsz := [], arr := none, slc := none, tag := 3, bytes := 8, int := none, mp := none } where
  z := fun _ => by kernel_rfl
  s := fun _ => by kernel_rfl
  a := fun _ => by kernel_rfl
  f := fun f off h => by simp at h
  g := fun len es h => by cases h
  c := fun e s h => by cases h
  m := fun x y h => by cases h
  b := fun h => absurd h (by decide)
  r := fun h => absurd h (by decide)
  i := by kernel_rfl
  k := fun k h => by cases h
  q := fun _ => isFunc_of (by kernel_rfl)
  p := fun k e h => by cases h

theorem ty36 : TyOk Tryd.prog 36 { zv := .nilFunc, size := 1, agg := false, flds := [], fsz := [], arr := none, slc := none, tag := 3, bytes := 8, int := none, mp := none } where
  z := fun _ => by kernel_rfl
  s := fun _ => by kernel_rfl
  a := fun _ => by kernel_rfl
  f := fun f off h => by simp at h
  g := fun len es h => by cases h
  c := fun e s h => by cases h
  m := fun x y h => by cases h
  b := fun h => absurd h (by decide)
  r := fun h => absurd h (by decide)
  i := by kernel_rfl
  k := fun k h => by cases h
  q := fun _ => isFunc_of (by kernel_rfl)
  p := fun k e h => by cases h

theorem ty37 : TyOk Tryd.prog 37 { zv := .nilFunc, size := 1, agg := false, flds := [], fsz := [], arr := none, slc := none, tag := 3, bytes := 8, int := none, mp := none } where
  z := fun _ => by kernel_rfl
  s := fun _ => by kernel_rfl
  a := fun _ => by kernel_rfl
  f := fun f off h => by simp at h
  g := fun len es h => by cases h
  c := fun e s h => by cases h
  m := fun x y h => by cases h
  b := fun h => absurd h (by decide)
  r := fun h => absurd h (by decide)
  i := by kernel_rfl
  k := fun k h => by cases h
  q := fun _ => isFunc_of (by kernel_rfl)
  p := fun k e h => by cases h

theorem ty38 : TyOk Tryd.prog 38 { zv := .nilFunc, size := 1, agg := false, flds := [], fsz := [], arr := none, slc := none, tag := 3, bytes := 8, int := none, mp := none } where
  z := fun _ => by kernel_rfl
  s := fun _ => by kernel_rfl
  a := fun _ => by kernel_rfl
  f := fun f off h => by simp at h
  g := fun len es h => by cases h
  c := fun e s h => by cases h
  m := fun x y h => by cases h
  b := fun h => absurd h (by decide)
  r := fun h => absurd h (by decide)
  i := by kernel_rfl
  k := fun k h => by cases h
  q := fun _ => isFunc_of (by kernel_rfl)
  p := fun k e h => by cases h

theorem ty39 : TyOk Tryd.prog 39 { zv := .slice none 0 0, size := 1, agg := false, flds := [], fsz := [], arr := none, slc := some (5, 1), tag := 0, bytes := 24, int := none, mp := none } where
  z := fun _ => by kernel_rfl
  s := fun _ => by kernel_rfl
  a := fun _ => by kernel_rfl
  f := fun f off h => by simp at h
  g := fun len es h => by cases h
  c := fun e s h => by cases h; exact ⟨by kernel_rfl, fun _ => by kernel_rfl⟩
  m := fun x y h => by cases h
  b := fun h => absurd h (by decide)
  r := fun h => absurd h (by decide)
  i := by kernel_rfl
  k := fun k h => by cases h
  q := fun h => absurd h (by decide)
  p := fun k e h => by cases h

theorem ty40 : TyOk Tryd.prog 40 { zv := .nilFunc, size := 1, agg := false, flds := [], fsz := [], arr := none, slc := none, tag := 3, bytes := 8, int := none, mp := none } where
  z := fun _ => by kernel_rfl
  s := fun _ => by kernel_rfl
  a := fun _ => by kernel_rfl
  f := fun f off h => by simp at h
  g := fun len es h => by cases h
  c := fun e s h => by cases h
  m := fun x y h => by cases h
  b := fun h => absurd h (by decide)
  r := fun h => absurd h (by decide)
  i := by kernel_rfl
  k := fun k h => by cases h
  q := fun _ => isFunc_of (by kernel_rfl)
  p := fun k e h => by cases h

theorem ty41 : TyOk Tryd.prog 41 { zv := .agg #[.int .i64 0, .int .i64 0], size := 2, agg := true, flds := [0, 1], fsz := [1, 1], arr := none, slc := none, tag := 0, bytes := 16, int := none, mp := none } where
  z := fun _ => by kernel_rfl
  s := fun _ => by kernel_rfl
  a := fun _ => by kernel_rfl
  f := fun f off h => match f, off, h with
      | 0, _, rfl => fun _ _ _ => by kernel_rfl
      | 1, _, rfl => fun _ _ _ => by kernel_rfl
      | _ + 2, _, h => by simp at h
  g := fun len es h => by cases h
  c := fun e s h => by cases h
  m := fun x y h => ⟨Tryd.prog.fieldsOf 41, by kernel_rfl, fun _ => by kernel_rfl⟩
  b := fun h => absurd h (by decide)
  r := fun h => absurd h (by decide)
  i := by kernel_rfl
  k := fun k h => by cases h
  q := fun h => absurd h (by decide)
  p := fun k e h => by cases h

theorem ty42 : TyOk Tryd.prog 42 { zv := .agg #[.int .i64 0, .int .i64 0], size := 2, agg := true, flds := [0, 1], fsz := [1, 1], arr := none, slc := none, tag := 0, bytes := 16, int := none, mp := none } where
  z := fun _ => by kernel_rfl
  s := fun _ => by kernel_rfl
  a := fun _ => by kernel_rfl
  f := fun f off h => match f, off, h with
      | 0, _, rfl => fun _ _ _ => by kernel_rfl
      | 1, _, rfl => fun _ _ _ => by kernel_rfl
      | _ + 2, _, h => by simp at h
  g := fun len es h => by cases h
  c := fun e s h => by cases h
  m := fun x y h => ⟨Tryd.prog.fieldsOf 42, by kernel_rfl, fun _ => by kernel_rfl⟩
  b := fun h => absurd h (by decide)
  r := fun h => absurd h (by decide)
  i := by kernel_rfl
  k := fun k h => by cases h
  q := fun h => absurd h (by decide)
  p := fun k e h => by cases h

theorem ty43 : TyOk Tryd.prog 43 { zv := .nilFunc, size := 1, agg := false, flds := [], fsz := [], arr := none, slc := none, tag := 3, bytes := 8, int := none, mp := none } where
  z := fun _ => by kernel_rfl
  s := fun _ => by kernel_rfl
  a := fun _ => by kernel_rfl
  f := fun f off h => by simp at h
  g := fun len es h => by cases h
  c := fun e s h => by cases h
  m := fun x y h => by cases h
  b := fun h => absurd h (by decide)
  r := fun h => absurd h (by decide)
  i := by kernel_rfl
  k := fun k h => by cases h
  q := fun _ => isFunc_of (by kernel_rfl)
  p := fun k e h => by cases h

theorem ty45 : TyOk Tryd.prog 45 { zv := .nilFunc, size := 1, agg := false, flds := [], fsz := [], arr := none, slc := none, tag := 3, bytes := 8, int := none, mp := none } where
  z := fun _ => by kernel_rfl
  s := fun _ => by kernel_rfl
  a := fun _ => by kernel_rfl
  f := fun f off h => by simp at h
  g := fun len es h => by cases h
  c := fun e s h => by cases h
  m := fun x y h => by cases h
  b := fun h => absurd h (by decide)
  r := fun h => absurd h (by decide)
  i := by kernel_rfl
  k := fun k h => by cases h
  q := fun _ => isFunc_of (by kernel_rfl)
  p := fun k e h => by cases h

theorem ty47 : TyOk Tryd.prog 47 { zv := .nilFunc, size := 1, agg := false, flds := [], fsz := [], arr := none, slc := none, tag := 3, bytes := 8, int := none, mp := none } where
  z := fun _ => by kernel_rfl
  s := fun _ => by kernel_rfl
  a := fun _ => by kernel_rfl
  f := fun f off h => by simp at h
  g := fun len es h => by cases h
  c := fun e s h => by cases h
  m := fun x y h => by cases h
  b := fun h => absurd h (by decide)
  r := fun h => absurd h (by decide)
  i := by kernel_rfl
  k := fun k h => by cases h
  q := fun _ => isFunc_of (by kernel_rfl)
  p := fun k e h => by cases h

theorem ty48 : TyOk Tryd.prog 48 { zv := .nilFunc, size := 1, agg := false, flds := [], fsz := [], arr := none, slc := none, tag := 3, bytes := 8, int := none, mp := none } where
  z := fun _ => by kernel_rfl
  s := fun _ => by kernel_rfl
  a := fun _ => by kernel_rfl
  f := fun f off h => by simp at h
  g := fun len es h => by cases h
  c := fun e s h => by cases h
  m := fun x y h => by cases h
  b := fun h => absurd h (by decide)
  r := fun h => absurd h (by decide)
  i := by kernel_rfl
  k := fun k h => by cases h
  q := fun _ => isFunc_of (by kernel_rfl)
  p := fun k e h => by cases h

theorem ty49 : TyOk Tryd.prog 49 { zv := .slice none 0 0, size := 1, agg := false, flds := [], fsz := [], arr := none, slc := some (9, 1), tag := 0, bytes := 24, int := none, mp := none } where
  z := fun _ => by kernel_rfl
  s := fun _ => by kernel_rfl
  a := fun _ => by kernel_rfl
  f := fun f off h => by simp at h
  g := fun len es h => by cases h
  c := fun e s h => by cases h; exact ⟨by kernel_rfl, fun _ => by kernel_rfl⟩
  m := fun x y h => by cases h
  b := fun h => absurd h (by decide)
  r := fun h => absurd h (by decide)
  i := by kernel_rfl
  k := fun k h => by cases h
  q := fun h => absurd h (by decide)
  p := fun k e h => by cases h

theorem ty50 : TyOk Tryd.prog 50 { zv := .pointer none, size := 1, agg := false, flds := [], fsz := [], arr := none, slc := none, tag := 0, bytes := 8, int := none, mp := none } where
  z := fun _ => by kernel_rfl
  s := fun _ => by kernel_rfl
  a := fun _ => by kernel_rfl
  f := fun f off h => by simp at h
  g := fun len es h => by cases h
  c := fun e s h => by cases h
  m := fun x y h => by cases h
  b := fun h => absurd h (by decide)
  r := fun h => absurd h (by decide)
  i := by kernel_rfl
  k := fun k h => by cases h
  q := fun h => absurd h (by decide)
  p := fun k e h => by cases h

theorem ty51 : TyOk Tryd.prog 51 { zv := .agg #[.pointer none, .pointer none, .pointer none, .pointer none, .pointer none], size := 5, agg := true, flds := [], fsz := [], arr := some (5, 1), slc := none, tag := 0, bytes := 40, int := none, mp := none } where
  z := fun _ => by kernel_rfl
  s := fun _ => by kernel_rfl
  a := fun _ => by kernel_rfl
  f := fun f off h => by simp at h
  g := fun len es h => by cases h; exact ⟨50, by kernel_rfl, fun _ => by kernel_rfl, fun _ _ => by kernel_rfl⟩
  c := fun e s h => by cases h
  m := fun x y h => by cases h
  b := fun h => absurd h (by decide)
  r := fun h => absurd h (by decide)
  i := by kernel_rfl
  k := fun k h => by cases h
  q := fun h => absurd h (by decide)
  p := fun k e h => by cases h

theorem ty52 : TyOk Tryd.prog 52 { zv := .nilFunc, size := 1, agg := false, flds := [], fsz := [], arr := none, slc := none, tag := 3, bytes := 8, int := none, mp := none } where
  z := fun _ => by kernel_rfl
  s := fun _ => by kernel_rfl
  a := fun _ => by kernel_rfl
  f := fun f off h => by simp at h
  g := fun len es h => by cases h
  c := fun e s h => by cases h
  m := fun x y h => by cases h
  b := fun h => absurd h (by decide)
  r := fun h => absurd h (by decide)
  i := by kernel_rfl
  k := fun k h => by cases h
  q := fun _ => isFunc_of (by kernel_rfl)
  p := fun k e h => by cases h

theorem ty53 : TyOk Tryd.prog 53 { zv := .pointer none, size := 1, agg := false, flds := [], fsz := [], arr := none, slc := none, tag := 0, bytes := 8, int := none, mp := none } where
  z := fun _ => by kernel_rfl
  s := fun _ => by kernel_rfl
  a := fun _ => by kernel_rfl
  f := fun f off h => by simp at h
  g := fun len es h => by cases h
  c := fun e s h => by cases h
  m := fun x y h => by cases h
  b := fun h => absurd h (by decide)
  r := fun h => absurd h (by decide)
  i := by kernel_rfl
  k := fun k h => by cases h
  q := fun h => absurd h (by decide)
  p := fun k e h => by cases h

theorem ty54 : TyOk Tryd.prog 54 { zv := .nilFunc, size := 1, agg := false, flds := [], fsz := [], arr := none, slc := none, tag := 3, bytes := 8, int := none, mp := none } where
  z := fun _ => by kernel_rfl
  s := fun _ => by kernel_rfl
  a := fun _ => by kernel_rfl
  f := fun f off h => by simp at h
  g := fun len es h => by cases h
  c := fun e s h => by cases h
  m := fun x y h => by cases h
  b := fun h => absurd h (by decide)
  r := fun h => absurd h (by decide)
  i := by kernel_rfl
  k := fun k h => by cases h
  q := fun _ => isFunc_of (by kernel_rfl)
  p := fun k e h => by cases h

theorem ty55 : TyOk Tryd.prog 55 { zv := .nilFunc, size := 1, agg := false, flds := [], fsz := [], arr := none, slc := none, tag := 3, bytes := 8, int := none, mp := none } where
  z := fun _ => by kernel_rfl
  s := fun _ => by kernel_rfl
  a := fun _ => by kernel_rfl
  f := fun f off h => by simp at h
  g := fun len es h => by cases h
  c := fun e s h => by cases h
  m := fun x y h => by cases h
  b := fun h => absurd h (by decide)
  r := fun h => absurd h (by decide)
  i := by kernel_rfl
  k := fun k h => by cases h
  q := fun _ => isFunc_of (by kernel_rfl)
  p := fun k e h => by cases h

theorem ty56 : TyOk Tryd.prog 56 { zv := .pointer none, size := 1, agg := false, flds := [], fsz := [], arr := none, slc := none, tag := 0, bytes := 8, int := none, mp := none } where
  z := fun _ => by kernel_rfl
  s := fun _ => by kernel_rfl
  a := fun _ => by kernel_rfl
  f := fun f off h => by simp at h
  g := fun len es h => by cases h
  c := fun e s h => by cases h
  m := fun x y h => by cases h
  b := fun h => absurd h (by decide)
  r := fun h => absurd h (by decide)
  i := by kernel_rfl
  k := fun k h => by cases h
  q := fun h => absurd h (by decide)
  p := fun k e h => by cases h

theorem ty57 : TyOk Tryd.prog 57 { zv := .agg #[.pointer none, .slice none 0 0], size := 2, agg := true, flds := [0, 1], fsz := [1, 1], arr := none, slc := none, tag := 0, bytes := 32, int := none, mp := none } where
  z := fun _ => by kernel_rfl
  s := fun _ => by kernel_rfl
  a := fun _ => by kernel_rfl
  f := fun f off h => match f, off, h with
      | 0, _, rfl => fun _ _ _ => by kernel_rfl
      | 1, _, rfl => fun _ _ _ => by kernel_rfl
      | _ + 2, _, h => by simp at h
  g := fun len es h => by cases h
  c := fun e s h => by cases h
  m := fun x y h => ⟨Tryd.prog.fieldsOf 57, by kernel_rfl, fun _ => by kernel_rfl⟩
  b := fun h => absurd h (by decide)
  r := fun h => absurd h (by decide)
  i := by kernel_rfl
  k := fun k h => by cases h
  q := fun h => absurd h (by decide)
  p := fun k e h => by cases h

theorem ty58 : TyOk Tryd.prog 58 { zv := .agg #[.pointer none, .slice none 0 0], size := 2, agg := true, flds := [0, 1], fsz := [1, 1], arr := none, slc := none, tag := 0, bytes := 32, int := none, mp := none } where
  z := fun _ => by kernel_rfl
  s := fun _ => by kernel_rfl
  a := fun _ => by kernel_rfl
  f := fun f off h => match f, off, h with
      | 0, _, rfl => fun _ _ _ => by kernel_rfl
      | 1, _, rfl => fun _ _ _ => by kernel_rfl
      | _ + 2, _, h => by simp at h
  g := fun len es h => by cases h
  c := fun e s h => by cases h
  m := fun x y h => ⟨Tryd.prog.fieldsOf 58, by kernel_rfl, fun _ => by kernel_rfl⟩
  b := fun h => absurd h (by decide)
  r := fun h => absurd h (by decide)
  i := by kernel_rfl
  k := fun k h => by cases h
  q := fun h => absurd h (by decide)
  p := fun k e h => by cases h

theorem ty59 : TyOk Tryd.prog 59 { zv := .nilIface, size := 1, agg := false, flds := [], fsz := [], arr := none, slc := none, tag := 0, bytes := 16, int := none, mp := none } where
  z := fun _ => by kernel_rfl
  s := fun _ => by kernel_rfl
  a := fun _ => by kernel_rfl
  f := fun f off h => by simp at h
  g := fun len es h => by cases h
  c := fun e s h => by cases h
  m := fun x y h => by cases h
  b := fun h => absurd h (by decide)
  r := fun h => absurd h (by decide)
  i := by kernel_rfl
  k := fun k h => by cases h
  q := fun h => absurd h (by decide)
  p := fun k e h => by cases h

theorem ty60 : TyOk Tryd.prog 60 { zv := .nilIface, size := 1, agg := false, flds := [], fsz := [], arr := none, slc := none, tag := 0, bytes := 16, int := none, mp := none } where
  z := fun _ => by kernel_rfl
  s := fun _ => by kernel_rfl
  a := fun _ => by kernel_rfl
  f := fun f off h => by simp at h
  g := fun len es h => by cases h
  c := fun e s h => by cases h
  m := fun x y h => by cases h
  b := fun h => absurd h (by decide)
  r := fun h => absurd h (by decide)
  i := by kernel_rfl
  k := fun k h => by cases h
  q := fun h => absurd h (by decide)
  p := fun k e h => by cases h

theorem ty62 : TyOk Tryd.prog 62 { zv := .nilFunc, size := 1, agg := false, flds := [], fsz := [], arr := none, slc := none, tag := 3, bytes := 8, int := none, mp := none } where
  z := fun _ => by kernel_rfl
  s := fun _ => by kernel_rfl
  a := fun _ => by kernel_rfl
  f := fun f off h => by simp at h
  g := fun len es h => by cases h
  c := fun e s h => by cases h
  m := fun x y h => by cases h
  b := fun h => absurd h (by decide)
  r := fun h => absurd h (by decide)
  i := by kernel_rfl
  k := fun k h => by cases h
  q := fun _ => isFunc_of (by kernel_rfl)
  p := fun k e h => by cases h

theorem ty63 : TyOk Tryd.prog 63 { zv := .nilFunc, size := 1, agg := false, flds := [], fsz := [], arr := none, slc := none, tag := 3, bytes := 8, int := none, mp := none } where
  z := fun _ => by kernel_rfl
  s := fun _ => by kernel_rfl
  a := fun _ => by kernel_rfl
  f := fun f off h => by simp at h
  g := fun len es h => by cases h
  c := fun e s h => by cases h
  m := fun x y h => by cases h
  b := fun h => absurd h (by decide)
  r := fun h => absurd h (by decide)
  i := by kernel_rfl
  k := fun k h => by cases h
  q := fun _ => isFunc_of (by kernel_rfl)
  p := fun k e h => by cases h

theorem ty64 : TyOk Tryd.prog 64 { zv := .nilFunc, size := 1, agg := false, flds := [], fsz := [], arr := none, slc := none, tag := 3, bytes := 8, int := none, mp := none } where
  z := fun _ => by kernel_rfl
  s := fun _ => by kernel_rfl
  a := fun _ => by kernel_rfl
  f := fun f off h => by simp at h
  g := fun len es h => by cases h
  c := fun e s h => by cases h
  m := fun x y h => by cases h
  b := fun h => absurd h (by decide)
  r := fun h => absurd h (by decide)
  i := by kernel_rfl
  k := fun k h => by cases h
  q := fun _ => isFunc_of (by kernel_rfl)
  p := fun k e h => by cases h

theorem ty65 : TyOk Tryd.prog 65 { zv := .nilFunc, size := 1, agg := false, flds := [], fsz := [], arr := none, slc := none, tag := 3, bytes := 8, int := none, mp := none } where
  z := fun _ => by kernel_rfl
  s := fun _ => by kernel_rfl
  a := fun _ => by kernel_rfl
  f := fun f off h => by simp at h
  g := fun len es h => by cases h
  c := fun e s h => by cases h
  m := fun x y h => by cases h
  b := fun h => absurd h (by decide)
  r := fun h => absurd h (by decide)
  i := by kernel_rfl
  k := fun k h => by cases h
  q := fun _ => isFunc_of (by kernel_rfl)
  p := fun k e h => by cases h

theorem ty66 : TyOk Tryd.prog 66 { zv := .nilFunc, size := 1, agg := false, flds := [], fsz := [], arr := none, slc := none, tag := 3, bytes := 8, int := none, mp := none } where
  z := fun _ => by kernel_rfl
  s := fun _ => by kernel_rfl
  a := fun _ => by kernel_rfl
  f := fun f off h => by simp at h
  g := fun len es h => by cases h
  c := fun e s h => by cases h
  m := fun x y h => by cases h
  b := fun h => absurd h (by decide)
  r := fun h => absurd h (by decide)
  i := by kernel_rfl
  k := fun k h => by cases h
  q := fun _ => isFunc_of (by kernel_rfl)
  p := fun k e h => by cases h

theorem ty67 : TyOk Tryd.prog 67 { zv := .nilFunc, size := 1, agg := false, flds := [], fsz := [], arr := none, slc := none, tag := 3, bytes := 8, int := none, mp := none } where
  z := fun _ => by kernel_rfl
  s := fun _ => by kernel_rfl
  a := fun _ => by kernel_rfl
  f := fun f off h => by simp at h
  g := fun len es h => by cases h
  c := fun e s h => by cases h
  m := fun x y h => by cases h
  b := fun h => absurd h (by decide)
  r := fun h => absurd h (by decide)
  i := by kernel_rfl
  k := fun k h => by cases h
  q := fun _ => isFunc_of (by kernel_rfl)
  p := fun k e h => by cases h

theorem ty68 : TyOk Tryd.prog 68 { zv := .nilFunc, size := 1, agg := false, flds := [], fsz := [], arr := none, slc := none, tag := 3, bytes := 8, int := none, mp := none } where
  z := fun _ => by kernel_rfl
  s := fun _ => by kernel_rfl
  a := fun _ => by kernel_rfl
  f := fun f off h => by simp at h
  g := fun len es h => by cases h
  c := fun e s h => by cases h
  m := fun x y h => by cases h
  b := fun h => absurd h (by decide)
  r := fun h => absurd h (by decide)
  i := by kernel_rfl
  k := fun k h => by cases h
  q := fun _ => isFunc_of (by kernel_rfl)
  p := fun k e h => by cases h

theorem ty69 : TyOk Tryd.prog 69 { zv := .pointer none, size := 1, agg := false, flds := [], fsz := [], arr := none, slc := none, tag := 0, bytes := 8, int := none, mp := none } where
  z := fun _ => by kernel_rfl
  s := fun _ => by kernel_rfl
  a := fun _ => by kernel_rfl
  f := fun f off h => by simp at h
  g := fun len es h => by cases h
  c := fun e s h => by cases h
  m := fun x y h => by cases h
  b := fun h => absurd h (by decide)
  r := fun h => absurd h (by decide)
  i := by kernel_rfl
  k := fun k h => by cases h
  q := fun h => absurd h (by decide)
  p := fun k e h => by cases h

theorem ty70 : TyOk Tryd.prog 70 { zv := .nilFunc, size := 1, agg := false, flds := [], fsz := [], arr := none, slc := none, tag := 3, bytes := 8, int := none, mp := none } where
  z := fun _ => by kernel_rfl
  s := fun _ => by kernel_rfl
  a := fun _ => by kernel_rfl
  f := fun f off h => by simp at h
  g := fun len es h => by cases h
  c := fun e s h => by cases h
  m := fun x y h => by cases h
  b := fun h => absurd h (by decide)
  r := fun h => absurd h (by decide)
  i := by kernel_rfl
  k := fun k h => by cases h
  q := fun _ => isFunc_of (by kernel_rfl)
  p := fun k e h => by cases h

theorem ty71 : TyOk Tryd.prog 71 { zv := .nilFunc, size := 1, agg := false, flds := [], fsz := [], arr := none, slc := none, tag := 3, bytes := 8, int := none, mp := none } where
  z := fun _ => by kernel_rfl
  s := fun _ => by kernel_rfl
  a := fun _ => by kernel_rfl
  f := fun f off h => by simp at h
  g := fun len es h => by cases h
  c := fun e s h => by cases h
  m := fun x y h => by cases h
  b := fun h => absurd h (by decide)
  r := fun h => absurd h (by decide)
  i := by kernel_rfl
  k := fun k h => by cases h
  q := fun _ => isFunc_of (by kernel_rfl)
  p := fun k e h => by cases h

theorem ty72 : TyOk Tryd.prog 72 { zv := .nilFunc, size := 1, agg := false, flds := [], fsz := [], arr := none, slc := none, tag := 3, bytes := 8, int := none, mp := none } where
  z := fun _ => by kernel_rfl
  s := fun _ => by kernel_rfl
  a := fun _ => by kernel_rfl
  f := fun f off h => by simp at h
  g := fun len es h => by cases h
  c := fun e s h => by cases h
  m := fun x y h => by cases h
  b := fun h => absurd h (by decide)
  r := fun h => absurd h (by decide)
  i := by kernel_rfl
  k := fun k h => by cases h
  q := fun _ => isFunc_of (by kernel_rfl)
  p := fun k e h => by cases h

theorem ty74 : TyOk Tryd.prog 74 { zv := .nilFunc, size := 1, agg := false, flds := [], fsz := [], arr := none, slc := none, tag := 3, bytes := 8, int := none, mp := none } where
  z := fun _ => by kernel_rfl
  s := fun _ => by kernel_rfl
  a := fun _ => by kernel_rfl
  f := fun f off h => by simp at h
  g := fun len es h => by cases h
  c := fun e s h => by cases h
  m := fun x y h => by cases h
  b := fun h => absurd h (by decide)
  r := fun h => absurd h (by decide)
  i := by kernel_rfl
  k := fun k h => by cases h
  q := fun _ => isFunc_of (by kernel_rfl)
  p := fun k e h => by cases h

theorem ty75 : TyOk Tryd.prog 75 { zv := .nilFunc, size := 1, agg := false, flds := [], fsz := [], arr := none, slc := none, tag := 3, bytes := 8, int := none, mp := none } where
  z := fun _ => by kernel_rfl
  s := fun _ => by kernel_rfl
  a := fun _ => by kernel_rfl
  f := fun f off h => by simp at h
  g := fun len es h => by cases h
  c := fun e s h => by cases h
  m := fun x y h => by cases h
  b := fun h => absurd h (by decide)
  r := fun h => absurd h (by decide)
  i := by kernel_rfl
  k := fun k h => by cases h
  q := fun _ => isFunc_of (by kernel_rfl)
  p := fun k e h => by cases h

theorem ty76 : TyOk Tryd.prog 76 { zv := .int .u64 0, size := 1, agg := false, flds := [], fsz := [], arr := none, slc := none, tag := 0, bytes := 8, int := some .u64, mp := none } where
  z := fun _ => by kernel_rfl
  s := fun _ => by kernel_rfl
  a := fun _ => by kernel_rfl
  f := fun f off h => by simp at h
  g := fun len es h => by cases h
  c := fun e s h => by cases h
  m := fun x y h => by cases h
  b := fun h => absurd h (by decide)
  r := fun h => absurd h (by decide)
  i := by kernel_rfl
  k := fun k h => by cases h; kernel_rfl
  q := fun h => absurd h (by decide)
  p := fun k e h => by cases h

theorem ty77 : TyOk Tryd.prog 77 { zv := .nilFunc, size := 1, agg := false, flds := [], fsz := [], arr := none, slc := none, tag := 3, bytes := 8, int := none, mp := none } where
  z := fun _ => by kernel_rfl
  s := fun _ => by kernel_rfl
  a := fun _ => by kernel_rfl
  f := fun f off h => by simp at h
  g := fun len es h => by cases h
  c := fun e s h => by cases h
  m := fun x y h => by cases h
  b := fun h => absurd h (by decide)
  r := fun h => absurd h (by decide)
  i := by kernel_rfl
  k := fun k h => by cases h
  q := fun _ => isFunc_of (by kernel_rfl)
  p := fun k e h => by cases h

theorem ty80 : TyOk Tryd.prog 80 { zv := .nilFunc, size := 1, agg := false, flds := [], fsz := [], arr := none, slc := none, tag := 3, bytes := 8, int := none, mp := none } where
  z := fun _ => by kernel_rfl
  s := fun _ => by kernel_rfl
  a := fun _ => by kernel_rfl
  f := fun f off h => by simp at h
  g := fun len es h => by cases h
  c := fun e s h => by cases h
  m := fun x y h => by cases h
  b := fun h => absurd h (by decide)
  r := fun h => absurd h (by decide)
  i := by kernel_rfl
  k := fun k h => by cases h
  q := fun _ => isFunc_of (by kernel_rfl)
  p := fun k e h => by cases h

theorem ty81 : TyOk Tryd.prog 81 { zv := .pointer none, size := 1, agg := false, flds := [], fsz := [], arr := none, slc := none, tag := 0, bytes := 8, int := none, mp := none } where
  z := fun _ => by kernel_rfl
  s := fun _ => by kernel_rfl
  a := fun _ => by kernel_rfl
  f := fun f off h => by simp at h
  g := fun len es h => by cases h
  c := fun e s h => by cases h
  m := fun x y h => by cases h
  b := fun h => absurd h (by decide)
  r := fun h => absurd h (by decide)
  i := by kernel_rfl
  k := fun k h => by cases h
  q := fun h => absurd h (by decide)
  p := fun k e h => by cases h

theorem ty82 : TyOk Tryd.prog 82 { zv := .nilFunc, size := 1, agg := false, flds := [], fsz := [], arr := none, slc := none, tag := 3, bytes := 8, int := none, mp := none } where
  z := fun _ => by kernel_rfl
  s := fun _ => by kernel_rfl
  a := fun _ => by kernel_rfl
  f := fun f off h => by simp at h
  g := fun len es h => by cases h
  c := fun e s h => by cases h
  m := fun x y h => by cases h
  b := fun h => absurd h (by decide)
  r := fun h => absurd h (by decide)
  i := by kernel_rfl
  k := fun k h => by cases h
  q := fun _ => isFunc_of (by kernel_rfl)
  p := fun k e h => by cases h

theorem ty83 : TyOk Tryd.prog 83 { zv := .nilFunc, size := 1, agg := false, flds := [], fsz := [], arr := none, slc := none, tag := 3, bytes := 8, int := none, mp := none } where
  z := fun _ => by kernel_rfl
  s := fun _ => by kernel_rfl
  a := fun _ => by kernel_rfl
  f := fun f off h => by simp at h
  g := fun len es h => by cases h
  c := fun e s h => by cases h
  m := fun x y h => by cases h
  b := fun h => absurd h (by decide)
  r := fun h => absurd h (by decide)
  i := by kernel_rfl
  k := fun k h => by cases h
  q := fun _ => isFunc_of (by kernel_rfl)
  p := fun k e h => by cases h

theorem ty84 : TyOk Tryd.prog 84 { zv := .agg #[.int .u8 0, .int .u8 0, .int .u8 0, .int .u8 0, .int .u8 0, .int .u8 0, .int .u8 0, .int .u8 0, .int .u8 0, .int .u8 0, .int .u8 0, .int .u8 0, .int .u8 0, .int .u8 0, .int .u8 0, .int .u8 0, .int .u8 0, .int .u8 0, .int .u8 0, .int .u8 0, .int .u8 0, .int .u8 0, .int .u8 0, .int .u8 0], size := 24, agg := true, flds := [], fsz := [], arr := some (24, 1), slc := none, tag := 0, bytes := 24, int := none, mp := none } where
  z := fun _ => by kernel_rfl
  s := fun _ => by kernel_rfl
  a := fun _ => by kernel_rfl
  f := fun f off h => by simp at h
  g := fun len es h => by cases h; exact ⟨5, by kernel_rfl, fun _ => by kernel_rfl, fun _ _ => by kernel_rfl⟩
  c := fun e s h => by cases h
  m := fun x y h => by cases h
  b := fun h => absurd h (by decide)
  r := fun h => absurd h (by decide)
  i := by kernel_rfl
  k := fun k h => by cases h
  q := fun h => absurd h (by decide)
  p := fun k e h => by cases h

theorem ty85 : TyOk Tryd.prog 85 { zv := .int .u64 0, size := 1, agg := false, flds := [], fsz := [], arr := none, slc := none, tag := 0, bytes := 8, int := some .u64, mp := none } where
  z := fun _ => by kernel_rfl
  s := fun _ => by kernel_rfl
  a := fun _ => by kernel_rfl
  f := fun f off h => by simp at h
  g := fun len es h => by cases h
  c := fun e s h => by cases h
  m := fun x y h => by cases h
  b := fun h => absurd h (by decide)
  r := fun h => absurd h (by decide)
  i := by kernel_rfl
  k := fun k h => by cases h; kernel_rfl
  q := fun h => absurd h (by decide)
  p := fun k e h => by cases h

theorem ty86 : TyOk Tryd.prog 86 { zv := .nilFunc, size := 1, agg := false, flds := [], fsz := [], arr := none, slc := none, tag := 3, bytes := 8, int := none, mp := none } where
  z := fun _ => by kernel_rfl
  s := fun _ => by kernel_rfl
  a := fun _ => by kernel_rfl
  f := fun f off h => by simp at h
  g := fun len es h => by cases h
  c := fun e s h => by cases h
  m := fun x y h => by cases h
  b := fun h => absurd h (by decide)
  r := fun h => absurd h (by decide)
  i := by kernel_rfl
  k := fun k h => by cases h
  q := fun _ => isFunc_of (by kernel_rfl)
  p := fun k e h => by cases h

theorem ty87 : TyOk Tryd.prog 87 { zv := .nilFunc, size := 1, agg := false, flds := [], fsz := [], arr := none, slc := none, tag := 3, bytes := 8, int := none, mp := none } where
  z := fun _ => by kernel_rfl
  s := fun _ => by kernel_rfl
  a := fun _ => by kernel_rfl
  f := fun f off h => by simp at h
  g := fun len es h => by cases h
  c := fun e s h => by cases h
  m := fun x y h => by cases h
  b := fun h => absurd h (by decide)
  r := fun h => absurd h (by decide)
  i := by kernel_rfl
  k := fun k h => by cases h
  q := fun _ => isFunc_of (by kernel_rfl)
  p := fun k e h => by cases h

theorem ty89 : TyOk Tryd.prog 89 { zv := .nilFunc, size := 1, agg := false, flds := [], fsz := [], arr := none, slc := none, tag := 3, bytes := 8, int := none, mp := none } where
  z := fun _ => by kernel_rfl
  s := fun _ => by kernel_rfl
  a := fun _ => by kernel_rfl
  f := fun f off h => by simp at h
  g := fun len es h => by cases h
  c := fun e s h => by cases h
  m := fun x y h => by cases h
  b := fun h => absurd h (by decide)
  r := fun h => absurd h (by decide)
  i := by kernel_rfl
  k := fun k h => by cases h
  q := fun _ => isFunc_of (by kernel_rfl)
  p := fun k e h => by cases h

theorem ty90 : TyOk Tryd.prog 90 { zv := .nilFunc, size := 1, agg := false, flds := [], fsz := [], arr := none, slc := none, tag := 3, bytes := 8, int := none, mp := none } where
  z := fun _ => by kernel_rfl
  s := fun _ => by kernel_rfl
  a := fun _ => by kernel_rfl
  f := fun f off h => by simp at h
  g := fun len es h => by cases h
  c := fun e s h => by cases h
  m := fun x y h => by cases h
  b := fun h => absurd h (by decide)
  r := fun h => absurd h (by decide)
  i := by kernel_rfl
  k := fun k h => by cases h
  q := fun _ => isFunc_of (by kernel_rfl)
  p := fun k e h => by cases h

theorem ty91 : TyOk Tryd.prog 91 { zv := .int .u32 0, size := 1, agg := false, flds := [], fsz := [], arr := none, slc := none, tag := 0, bytes := 4, int := some .u32, mp := none } where
  z := fun _ => by kernel_rfl
  s := fun _ => by kernel_rfl
  a := fun _ => by kernel_rfl
  f := fun f off h => by simp at h
  g := fun len es h => by cases h
  c := fun e s h => by cases h
  m := fun x y h => by cases h
  b := fun h => absurd h (by decide)
  r := fun h => absurd h (by decide)
  i := by kernel_rfl
  k := fun k h => by cases h; kernel_rfl
  q := fun h => absurd h (by decide)
  p := fun k e h => by cases h

theorem ty93 : TyOk Tryd.prog 93 { zv := .nilFunc, size := 1, agg := false, flds := [], fsz := [], arr := none, slc := none, tag := 3, bytes := 8, int := none, mp := none } where
  z := fun _ => by kernel_rfl
  s := fun _ => by kernel_rfl
  a := fun _ => by kernel_rfl
  f := fun f off h => by simp at h
  g := fun len es h => by cases h
  c := fun e s h => by cases h
  m := fun x y h => by cases h
  b := fun h => absurd h (by decide)
  r := fun h => absurd h (by decide)
  i := by kernel_rfl
  k := fun k h => by cases h
  q := fun _ => isFunc_of (by kernel_rfl)
  p := fun k e h => by cases h

theorem ty95 : TyOk Tryd.prog 95 { zv := .nilFunc, size := 1, agg := false, flds := [], fsz := [], arr := none, slc := none, tag := 3, bytes := 8, int := none, mp := none } where
  z := fun _ => by kernel_rfl
  s := fun _ => by kernel_rfl
  a := fun _ => by kernel_rfl
  f := fun f off h => by simp at h
  g := fun len es h => by cases h
  c := fun e s h => by cases h
  m := fun x y h => by cases h
  b := fun h => absurd h (by decide)
  r := fun h => absurd h (by decide)
  i := by kernel_rfl
  k := fun k h => by cases h
  q := fun _ => isFunc_of (by kernel_rfl)
  p := fun k e h => by cases h

theorem ty97 : TyOk Tryd.prog 97 { zv := .nilFunc, size := 1, agg := false, flds := [], fsz := [], arr := none, slc := none, tag := 3, bytes := 8, int := none, mp := none } where
  z := fun _ => by kernel_rfl
  s := fun _ => by kernel_rfl
  a := fun _ => by kernel_rfl
  f := fun f off h => by simp at h
  g := fun len es h => by cases h
  c := fun e s h => by cases h
  m := fun x y h => by cases h
  b := fun h => absurd h (by decide)
  r := fun h => absurd h (by decide)
  i := by kernel_rfl
  k := fun k h => by cases h
  q := fun _ => isFunc_of (by kernel_rfl)
  p := fun k e h => by cases h

theorem ty98 : TyOk Tryd.prog 98 { zv := .nilFunc, size := 1, agg := false, flds := [], fsz := [], arr := none, slc := none, tag := 3, bytes := 8, int := none, mp := none } where
  z := fun _ => by kernel_rfl
  s := fun _ => by kernel_rfl
  a := fun _ => by kernel_rfl
  f := fun f off h => by simp at h
  g := fun len es h => by cases h
  c := fun e s h => by cases h
  m := fun x y h => by cases h
  b := fun h => absurd h (by decide)
  r := fun h => absurd h (by decide)
  i := by kernel_rfl
  k := fun k h => by cases h
  q := fun _ => isFunc_of (by kernel_rfl)
  p := fun k e h => by cases h

theorem ty99 : TyOk Tryd.prog 99 { zv := .agg #[.string ⟨#[]⟩, .string ⟨#[]⟩, .nilIface], size := 3, agg := true, flds := [0, 1, 2], fsz := [1, 1, 1], arr := none, slc := none, tag := 0, bytes := 48, int := none, mp := none } where
  z := fun _ => by kernel_rfl
  s := fun _ => by kernel_rfl
  a := fun _ => by kernel_rfl
  f := fun f off h => match f, off, h with
      | 0, _, rfl => fun _ _ _ => by kernel_rfl
      | 1, _, rfl => fun _ _ _ => by kernel_rfl
      | 2, _, rfl => fun _ _ _ => by kernel_rfl
      | _ + 3, _, h => by simp at h
  g := fun len es h => by cases h
  c := fun e s h => by cases h
  m := fun x y h => ⟨Tryd.prog.fieldsOf 99, by kernel_rfl, fun _ => by kernel_rfl⟩
  b := fun h => absurd h (by decide)
  r := fun h => absurd h (by decide)
  i := by kernel_rfl
  k := fun k h => by cases h
  q := fun h => absurd h (by decide)
  p := fun k e h => by cases h

theorem ty100 : TyOk Tryd.prog 100 { zv := .agg #[.string ⟨#[]⟩, .string ⟨#[]⟩, .nilIface], size := 3, agg := true, flds := [0, 1, 2], fsz := [1, 1, 1], arr := none, slc := none, tag := 0, bytes := 48, int := none, mp := none } where
  z := fun _ => by kernel_rfl
  s := fun _ => by kernel_rfl
  a := fun _ => by kernel_rfl
  f := fun f off h => match f, off, h with
      | 0, _, rfl => fun _ _ _ => by kernel_rfl
      | 1, _, rfl => fun _ _ _ => by kernel_rfl
      | 2, _, rfl => fun _ _ _ => by kernel_rfl
      | _ + 3, _, h => by simp at h
  g := fun len es h => by cases h
  c := fun e s h => by cases h
  m := fun x y h => ⟨Tryd.prog.fieldsOf 100, by kernel_rfl, fun _ => by kernel_rfl⟩
  b := fun h => absurd h (by decide)
  r := fun h => absurd h (by decide)
  i := by kernel_rfl
  k := fun k h => by cases h
  q := fun h => absurd h (by decide)
  p := fun k e h => by cases h

theorem ty101 : TyOk Tryd.prog 101 { zv := .nilFunc, size := 1, agg := false, flds := [], fsz := [], arr := none, slc := none, tag := 3, bytes := 8, int := none, mp := none } where
  z := fun _ => by kernel_rfl
  s := fun _ => by kernel_rfl
  a := fun _ => by kernel_rfl
  f := fun f off h => by simp at h
  g := fun len es h => by cases h
  c := fun e s h => by cases h
  m := fun x y h => by cases h
  b := fun h => absurd h (by decide)
  r := fun h => absurd h (by decide)
  i := by kernel_rfl
  k := fun k h => by cases h
  q := fun _ => isFunc_of (by kernel_rfl)
  p := fun k e h => by cases h

theorem ty102 : TyOk Tryd.prog 102 { zv := .nilFunc, size := 1, agg := false, flds := [], fsz := [], arr := none, slc := none, tag := 3, bytes := 8, int := none, mp := none } where
  z := fun _ => by kernel_rfl
  s := fun _ => by kernel_rfl
  a := fun _ => by kernel_rfl
  f := fun f off h => by simp at h
  g := fun len es h => by cases h
  c := fun e s h => by cases h
  m := fun x y h => by cases h
  b := fun h => absurd h (by decide)
  r := fun h => absurd h (by decide)
  i := by kernel_rfl
  k := fun k h => by cases h
  q := fun _ => isFunc_of (by kernel_rfl)
  p := fun k e h => by cases h

theorem ty103 : TyOk Tryd.prog 103 { zv := .agg #[.int .u64 0, .int .u64 0, .int .u64 0, .int .u64 0, .int .u64 0, .int .u64 0, .int .u64 0, .int .u64 0, .int .u64 0, .int .u64 0, .int .u64 0, .int .u64 0, .int .u64 0, .int .u64 0, .int .u64 0, .int .u64 0, .int .u64 0, .int .u64 0, .int .u64 0, .int .u64 0], size := 20, agg := true, flds := [], fsz := [], arr := some (20, 1), slc := none, tag := 0, bytes := 160, int := none, mp := none } where
  z := fun _ => by kernel_rfl
  s := fun _ => by kernel_rfl
  a := fun _ => by kernel_rfl
  f := fun f off h => by simp at h
  g := fun len es h => by cases h; exact ⟨85, by kernel_rfl, fun _ => by kernel_rfl, fun _ _ => by kernel_rfl⟩
  c := fun e s h => by cases h
  m := fun x y h => by cases h
  b := fun h => absurd h (by decide)
  r := fun h => absurd h (by decide)
  i := by kernel_rfl
  k := fun k h => by cases h
  q := fun h => absurd h (by decide)
  p := fun k e h => by cases h

theorem ty105 : TyOk Tryd.prog 105 { zv := .nilFunc, size := 1, agg := false, flds := [], fsz := [], arr := none, slc := none, tag := 3, bytes := 8, int := none, mp := none } where
  z := fun _ => by kernel_rfl
  s := fun _ => by kernel_rfl
  a := fun _ => by kernel_rfl
  f := fun f off h => by simp at h
  g := fun len es h => by cases h
  c := fun e s h => by cases h
  m := fun x y h => by cases h
  b := fun h => absurd h (by decide)
  r := fun h => absurd h (by decide)
  i := by kernel_rfl
  k := fun k h => by cases h
  q := fun _ => isFunc_of (by kernel_rfl)
  p := fun k e h => by cases h

theorem ty106 : TyOk Tryd.prog 106 { zv := .nilFunc, size := 1, agg := false, flds := [], fsz := [], arr := none, slc := none, tag := 3, bytes := 8, int := none, mp := none } where
  z := fun _ => by kernel_rfl
  s := fun _ => by kernel_rfl
  a := fun _ => by kernel_rfl
  f := fun f off h => by simp at h
  g := fun len es h => by cases h
  c := fun e s h => by cases h
  m := fun x y h => by cases h
  b := fun h => absurd h (by decide)
  r := fun h => absurd h (by decide)
  i := by kernel_rfl
  k := fun k h => by cases h
  q := fun _ => isFunc_of (by kernel_rfl)
  p := fun k e h => by cases h

theorem ty107 : TyOk Tryd.prog 107 { zv := .pointer none, size := 1, agg := false, flds := [], fsz := [], arr := none, slc := none, tag := 0, bytes := 8, int := none, mp := none } where
  z := fun _ => by kernel_rfl
  s := fun _ => by kernel_rfl
  a := fun _ => by kernel_rfl
  f := fun f off h => by simp at h
  g := fun len es h => by cases h
  c := fun e s h => by cases h
  m := fun x y h => by cases h
  b := fun h => absurd h (by decide)
  r := fun h => absurd h (by decide)
  i := by kernel_rfl
  k := fun k h => by cases h
  q := fun h => absurd h (by decide)
  p := fun k e h => by cases h

theorem ty108 : TyOk Tryd.prog 108 { zv := .agg #[.string ⟨#[]⟩], size := 1, agg := true, flds := [0], fsz := [1], arr := none, slc := none, tag := 0, bytes := 16, int := none, mp := none } where
  z := fun _ => by kernel_rfl
  s := fun _ => by kernel_rfl
  a := fun _ => by kernel_rfl
  f := fun f off h => match f, off, h with
      | 0, _, rfl => fun _ _ _ => by kernel_rfl
      | _ + 1, _, h => by simp at h
  g := fun len es h => by cases h
  c := fun e s h => by cases h
  m := fun x y h => ⟨Tryd.prog.fieldsOf 108, by kernel_rfl, fun _ => by kernel_rfl⟩
  b := fun h => absurd h (by decide)
  r := fun h => absurd h (by decide)
  i := by kernel_rfl
  k := fun k h => by cases h
  q := fun h => absurd h (by decide)
  p := fun k e h => by cases h

theorem ty109 : TyOk Tryd.prog 109 { zv := .agg #[.string ⟨#[]⟩], size := 1, agg := true, flds := [0], fsz := [1], arr := none, slc := none, tag := 0, bytes := 16, int := none, mp := none } where
  z := fun _ => by kernel_rfl
  s := fun _ => by kernel_rfl
  a := fun _ => by kernel_rfl
  f := fun f off h => match f, off, h with
      | 0, _, rfl => fun _ _ _ => by kernel_rfl
      | _ + 1, _, h => by simp at h
  g := fun len es h => by cases h
  c := fun e s h => by cases h
  m := fun x y h => ⟨Tryd.prog.fieldsOf 109, by kernel_rfl, fun _ => by kernel_rfl⟩
  b := fun h => absurd h (by decide)
  r := fun h => absurd h (by decide)
  i := by kernel_rfl
  k := fun k h => by cases h
  q := fun h => absurd h (by decide)
  p := fun k e h => by cases h

theorem ty110 : TyOk Tryd.prog 110 { zv := .nilFunc, size := 1, agg := false, flds := [], fsz := [], arr := none, slc := none, tag := 3, bytes := 8, int := none, mp := none } where
  z := fun _ => by kernel_rfl
  s := fun _ => by kernel_rfl
  a := fun _ => by kernel_rfl
  f := fun f off h => by simp at h
  g := fun len es h => by cases h
  c := fun e s h => by cases h
  m := fun x y h => by cases h
  b := fun h => absurd h (by decide)
  r := fun h => absurd h (by decide)
  i := by kernel_rfl
  k := fun k h => by cases h
  q := fun _ => isFunc_of (by kernel_rfl)
  p := fun k e h => by cases h

theorem ty112 : TyOk Tryd.prog 112 { zv := .agg #[.int .u8 0, .int .u8 0], size := 2, agg := true, flds := [0, 1], fsz := [1, 1], arr := none, slc := none, tag := 0, bytes := 2, int := none, mp := none } where
  z := fun _ => by kernel_rfl
  s := fun _ => by kernel_rfl
  a := fun _ => by kernel_rfl
  f := fun f off h => match f, off, h with
      | 0, _, rfl => fun _ _ _ => by kernel_rfl
      | 1, _, rfl => fun _ _ _ => by kernel_rfl
      | _ + 2, _, h => by simp at h
  g := fun len es h => by cases h
  c := fun e s h => by cases h
  m := fun x y h => ⟨Tryd.prog.fieldsOf 112, by kernel_rfl, fun _ => by kernel_rfl⟩
  b := fun h => absurd h (by decide)
  r := fun h => absurd h (by decide)
  i := by kernel_rfl
  k := fun k h => by cases h
  q := fun h => absurd h (by decide)
  p := fun k e h => by cases h

theorem ty113 : TyOk Tryd.prog 113 { zv := .agg #[.int .u8 0, .int .u8 0], size := 2, agg := true, flds := [0, 1], fsz := [1, 1], arr := none, slc := none, tag := 0, bytes := 2, int := none, mp := none } where
  z := fun _ => by kernel_rfl
  s := fun _ => by kernel_rfl
  a := fun _ => by kernel_rfl
  f := fun f off h => match f, off, h with
      | 0, _, rfl => fun _ _ _ => by kernel_rfl
      | 1, _, rfl => fun _ _ _ => by kernel_rfl
      | _ + 2, _, h => by simp at h
  g := fun len es h => by cases h
  c := fun e s h => by cases h
  m := fun x y h => ⟨Tryd.prog.fieldsOf 113, by kernel_rfl, fun _ => by kernel_rfl⟩
  b := fun h => absurd h (by decide)
  r := fun h => absurd h (by decide)
  i := by kernel_rfl
  k := fun k h => by cases h
  q := fun h => absurd h (by decide)
  p := fun k e h => by cases h

theorem ty114 : TyOk Tryd.prog 114 { zv := .agg #[.int .u8 0, .int .u8 0, .int .u8 0, .int .u8 0, .int .u8 0, .int .u8 0, .int .u8 0, .int .u8 0, .int .u8 0, .int .u8 0, .int .u8 0, .int .u8 0, .int .u8 0, .int .u8 0, .int .u8 0, .int .u8 0, .int .u8 0, .int .u8 0, .int .u8 0, .int .u8 0, .int .u8 0, .int .u8 0, .int .u8 0, .int .u8 0, .int .u8 0, .int .u8 0, .int .u8 0, .int .u8 0, .int .u8 0, .int .u8 0, .int .u8 0, .int .u8 0], size := 32, agg := true, flds := [], fsz := [], arr := some (16, 2), slc := none, tag := 0, bytes := 32, int := none, mp := none } where
  z := fun _ => by kernel_rfl
  s := fun _ => by kernel_rfl
  a := fun _ => by kernel_rfl
  f := fun f off h => by simp at h
  g := fun len es h => by cases h; exact ⟨113, by kernel_rfl, fun _ => by kernel_rfl, fun h => absurd h (by decide)⟩
  c := fun e s h => by cases h
  m := fun x y h => by cases h
  b := fun h => absurd h (by decide)
  r := fun h => absurd h (by decide)
  i := by kernel_rfl
  k := fun k h => by cases h
  q := fun h => absurd h (by decide)
  p := fun k e h => by cases h

theorem ty115 : TyOk Tryd.prog 115 { zv := .agg #[.int .u8 0, .int .u8 0, .int .u8 0, .int .u8 0, .int .u8 0, .int .u8 0, .int .u8 0, .int .u8 0, .int .u8 0, .int .u8 0, .int .u8 0, .int .u8 0, .int .u8 0, .int .u8 0, .int .u8 0, .int .u8 0, .int .u8 0, .int .u8 0, .int .u8 0, .int .u8 0, .int .u8 0, .int .u8 0, .int .u8 0, .int .u8 0, .int .u8 0, .int .u8 0, .int .u8 0, .int .u8 0, .int .u8 0, .int .u8 0, .int .u8 0, .int .u8 0], size := 32, agg := true, flds := [], fsz := [], arr := some (32, 1), slc := none, tag := 0, bytes := 32, int := none, mp := none } where
  z := fun _ => by kernel_rfl
  s := fun _ => by kernel_rfl
  a := fun _ => by kernel_rfl
  f := fun f off h => by simp at h
  g := fun len es h => by cases h; exact ⟨5, by kernel_rfl, fun _ => by kernel_rfl, fun _ _ => by kernel_rfl⟩
  c := fun e s h => by cases h
  m := fun x y h => by cases h
  b := fun h => absurd h (by decide)
  r := fun h => absurd h (by decide)
  i := by kernel_rfl
  k := fun k h => by cases h
  q := fun h => absurd h (by decide)
  p := fun k e h => by cases h

theorem ty122 : TyOk Tryd.prog 122 { zv := .nilFunc, size := 1, agg := false, flds := [], fsz := [], arr := none, slc := none, tag := 3, bytes := 8, int := none, mp := none } where
  z := fun _ => by kernel_rfl
  s := fun _ => by kernel_rfl
  a := fun _ => by kernel_rfl
  f := fun f off h => by simp at h
  g := fun len es h => by cases h
  c := fun e s h => by cases h
  m := fun x y h => by cases h
  b := fun h => absurd h (by decide)
  r := fun h => absurd h (by decide)
  i := by kernel_rfl
  k := fun k h => by cases h
  q := fun _ => isFunc_of (by kernel_rfl)
  p := fun k e h => by cases h

theorem ty125 : TyOk Tryd.prog 125 { zv := .nilFunc, size := 1, agg := false, flds := [], fsz := [], arr := none, slc := none, tag := 3, bytes := 8, int := none, mp := none } where
  z := fun _ => by kernel_rfl
  s := fun _ => by kernel_rfl
  a := fun _ => by kernel_rfl
  f := fun f off h => by simp at h
  g := fun len es h => by cases h
  c := fun e s h => by cases h
  m := fun x y h => by cases h
  b := fun h => absurd h (by decide)
  r := fun h => absurd h (by decide)
  i := by kernel_rfl
  k := fun k h => by cases h
  q := fun _ => isFunc_of (by kernel_rfl)
  p := fun k e h => by cases h

def ent : Nat → Option Ty
  | 1 => some { zv := .nilFunc, size := 1, agg := false, flds := [], fsz := [], arr := none, slc := none, tag := 3, bytes := 8, int := none, mp := none }
  | 2 => some { zv := .int .i64 0, size := 1, agg := false, flds := [], fsz := [], arr := none, slc := none, tag := 0, bytes := 8, int := some .i64, mp := none }
  | 3 => some { zv := .int .i64 0, size := 1, agg := false, flds := [], fsz := [], arr := none, slc := none, tag := 0, bytes := 8, int := some .i64, mp := none }
  | 4 => some { zv := .bool false, size := 1, agg := false, flds := [], fsz := [], arr := none, slc := none, tag := 1, bytes := 1, int := none, mp := none }
  | 5 => some { zv := .int .u8 0, size := 1, agg := false, flds := [], fsz := [], arr := none, slc := none, tag := 0, bytes := 1, int := some .u8, mp := none }
  | 9 => some { zv := .string ⟨#[]⟩, size := 1, agg := false, flds := [], fsz := [], arr := none, slc := none, tag := 2, bytes := 16, int := none, mp := none }
  | 12 => some { zv := .int .u64 0, size := 1, agg := false, flds := [], fsz := [], arr := none, slc := none, tag := 0, bytes := 8, int := some .u64, mp := none }
  | 20 => some { zv := .nilIface, size := 1, agg := false, flds := [], fsz := [], arr := none, slc := none, tag := 0, bytes := 16, int := none, mp := none }
  | 21 => some { zv := .int .i32 0, size := 1, agg := false, flds := [], fsz := [], arr := none, slc := none, tag := 0, bytes := 4, int := some .i32, mp := none }
  | 22 => some { zv := .nilFunc, size := 1, agg := false, flds := [], fsz := [], arr := none, slc := none, tag := 3, bytes := 8, int := none, mp := none }
  | 23 => some { zv := .slice none 0 0, size := 1, agg := false, flds := [], fsz := [], arr := none, slc := some (31, 6), tag := 0, bytes := 24, int := none, mp := none }
  | 24 => some { zv := .int .i64 0, size := 1, agg := false, flds := [], fsz := [], arr := none, slc := none, tag := 0, bytes := 8, int := some .i64, mp := none }
  | 26 => some { zv := .nilFunc, size := 1, agg := false, flds := [], fsz := [], arr := none, slc := none, tag := 3, bytes := 8, int := none, mp := none }
  | 27 => some { zv := .nilFunc, size := 1, agg := false, flds := [], fsz := [], arr := none, slc := none, tag := 3, bytes := 8, int := none, mp := none }
  | 28 => some { zv := .nilFunc, size := 1, agg := false, flds := [], fsz := [], arr := none, slc := none, tag := 3, bytes := 8, int := none, mp := none }
  | 29 => some { zv := .slice none 0 0, size := 1, agg := false, flds := [], fsz := [], arr := none, slc := some (42, 2), tag := 0, bytes := 24, int := none, mp := none }
  | 30 => some { zv := .agg #[.int .i64 0, .int .i64 0, .int .i64 0, .int .i64 0, .int .i64 0, .slice none 0 0], size := 6, agg := true, flds := [0, 1, 2, 3, 4, 5], fsz := [1, 1, 1, 1, 1, 1], arr := none, slc := none, tag := 0, bytes := 64, int := none, mp := none }
  | 31 => some { zv := .agg #[.int .i64 0, .int .i64 0, .int .i64 0, .int .i64 0, .int .i64 0, .slice none 0 0], size := 6, agg := true, flds := [0, 1, 2, 3, 4, 5], fsz := [1, 1, 1, 1, 1, 1], arr := none, slc := none, tag := 0, bytes := 64, int := none, mp := none }
  | 32 => some { zv := .nilFunc, size := 1, agg := false, flds := [], fsz := [], arr := none, slc := none, tag := 3, bytes := 8, int := none, mp := none }
  | 33 => some { zv := .nilFunc, size := 1, agg := false, flds := [], fsz := [], arr := none, slc := none, tag := 3, bytes := 8, int := none, mp := none }
  | 34 => some { zv := .nilFunc, size := 1, agg := false, flds := [], fsz := [], arr := none, slc := none, tag := 3, bytes := 8, int := none, mp := none }
  | 36 => some { zv := .nilFunc, size := 1, agg := false, flds := [], fsz := [], arr := none, slc := none, tag := 3, bytes := 8, int := none, mp := none }
  | 37 => some { zv := .nilFunc, size := 1, agg := false, flds := [], fsz := [], arr := none, slc := none, tag := 3, bytes := 8, int := none, mp := none }
  | 38 => some { zv := .nilFunc, size := 1, agg := false, flds := [], fsz := [], arr := none, slc := none, tag := 3, bytes := 8, int := none, mp := none }
  | 39 => some { zv := .slice none 0 0, size := 1, agg := false, flds := [], fsz := [], arr := none, slc := some (5, 1), tag := 0, bytes := 24, int := none, mp := none }
  | 40 => some { zv := .nilFunc, size := 1, agg := false, flds := [], fsz := [], arr := none, slc := none, tag := 3, bytes := 8, int := none, mp := none }
  | 41 => some { zv := .agg #[.int .i64 0, .int .i64 0], size := 2, agg := true, flds := [0, 1], fsz := [1, 1], arr := none, slc := none, tag := 0, bytes := 16, int := none, mp := none }
  | 42 => some { zv := .agg #[.int .i64 0, .int .i64 0], size := 2, agg := true, flds := [0, 1], fsz := [1, 1], arr := none, slc := none, tag := 0, bytes := 16, int := none, mp := none }
  | 43 => some { zv := .nilFunc, size := 1, agg := false, flds := [], fsz := [], arr := none, slc := none, tag := 3, bytes := 8, int := none, mp := none }
  | 45 => some { zv := .nilFunc, size := 1, agg := false, flds := [], fsz := [], arr := none, slc := none, tag := 3, bytes := 8, int := none, mp := none }
  | 47 => some { zv := .nilFunc, size := 1, agg := false, flds := [], fsz := [], arr := none, slc := none, tag := 3, bytes := 8, int := none, mp := none }
  | 48 => some { zv := .nilFunc, size := 1, agg := false, flds := [], fsz := [], arr := none, slc := none, tag := 3, bytes := 8, int := none, mp := none }
  | 49 => some { zv := .slice none 0 0, size := 1, agg := false, flds := [], fsz := [], arr := none, slc := some (9, 1), tag := 0, bytes := 24, int := none, mp := none }
  | 50 => some { zv := .pointer none, size := 1, agg := false, flds := [], fsz := [], arr := none, slc := none, tag := 0, bytes := 8, int := none, mp := none }
  | 51 => some { zv := .agg #[.pointer none, .pointer none, .pointer none, .pointer none, .pointer none], size := 5, agg := true, flds := [], fsz := [], arr := some (5, 1), slc := none, tag := 0, bytes := 40, int := none, mp := none }
  | 52 => some { zv := .nilFunc, size := 1, agg := false, flds := [], fsz := [], arr := none, slc := none, tag := 3, bytes := 8, int := none, mp := none }
  | 53 => some { zv := .pointer none, size := 1, agg := false, flds := [], fsz := [], arr := none, slc := none, tag := 0, bytes := 8, int := none, mp := none }
  | 54 => some { zv := .nilFunc, size := 1, agg := false, flds := [], fsz := [], arr := none, slc := none, tag := 3, bytes := 8, int := none, mp := none }
  | 55 => some { zv := .nilFunc, size := 1, agg := false, flds := [], fsz := [], arr := none, slc := none, tag := 3, bytes := 8, int := none, mp := none }
  | 56 => some { zv := .pointer none, size := 1, agg := false, flds := [], fsz := [], arr := none, slc := none, tag := 0, bytes := 8, int := none, mp := none }
  | 57 => some { zv := .agg #[.pointer none, .slice none 0 0], size := 2, agg := true, flds := [0, 1], fsz := [1, 1], arr := none, slc := none, tag := 0, bytes := 32, int := none, mp := none }
  | 58 => some { zv := .agg #[.pointer none, .slice none 0 0], size := 2, agg := true, flds := [0, 1], fsz := [1, 1], arr := none, slc := none, tag := 0, bytes := 32, int := none, mp := none }
  | 59 => some { zv := .nilIface, size := 1, agg := false, flds := [], fsz := [], arr := none, slc := none, tag := 0, bytes := 16, int := none, mp := none }
  | 60 => some { zv := .nilIface, size := 1, agg := false, flds := [], fsz := [], arr := none, slc := none, tag := 0, bytes := 16, int := none, mp := none }
  | 62 => some { zv := .nilFunc, size := 1, agg := false, flds := [], fsz := [], arr := none, slc := none, tag := 3, bytes := 8, int := none, mp := none }
  | 63 => some { zv := .nilFunc, size := 1, agg := false, flds := [], fsz := [], arr := none, slc := none, tag := 3, bytes := 8, int := none, mp := none }
  | 64 => some { zv := .nilFunc, size := 1, agg := false, flds := [], fsz := [], arr := none, slc := none, tag := 3, bytes := 8, int := none, mp := none }
  | 65 => some { zv := .nilFunc, size := 1, agg := false, flds := [], fsz := [], arr := none, slc := none, tag := 3, bytes := 8, int := none, mp := none }
  | 66 => some { zv := .nilFunc, size := 1, agg := false, flds := [], fsz := [], arr := none, slc := none, tag := 3, bytes := 8, int := none, mp := none }
  | 67 => some { zv := .nilFunc, size := 1, agg := false, flds := [], fsz := [], arr := none, slc := none, tag := 3, bytes := 8, int := none, mp := none }
  | 68 => some { zv := .nilFunc, size := 1, agg := false, flds := [], fsz := [], arr := none, slc := none, tag := 3, bytes := 8, int := none, mp := none }
  | 69 => some { zv := .pointer none, size := 1, agg := false, flds := [], fsz := [], arr := none, slc := none, tag := 0, bytes := 8, int := none, mp := none }
  | 70 => some { zv := .nilFunc, size := 1, agg := false, flds := [], fsz := [], arr := none, slc := none, tag := 3, bytes := 8, int := none, mp := none }
  | 71 => some { zv := .nilFunc, size := 1, agg := false, flds := [], fsz := [], arr := none, slc := none, tag := 3, bytes := 8, int := none, mp := none }
  | 72 => some { zv := .nilFunc, size := 1, agg := false, flds := [], fsz := [], arr := none, slc := none, tag := 3, bytes := 8, int := none, mp := none }
  | 74 => some { zv := .nilFunc, size := 1, agg := false, flds := [], fsz := [], arr := none, slc := none, tag := 3, bytes := 8, int := none, mp := none }
  | 75 => some { zv := .nilFunc, size := 1, agg := false, flds := [], fsz := [], arr := none, slc := none, tag := 3, bytes := 8, int := none, mp := none }
  | 76 => some { zv := .int .u64 0, size := 1, agg := false, flds := [], fsz := [], arr := none, slc := none, tag := 0, bytes := 8, int := some .u64, mp := none }
  | 77 => some { zv := .nilFunc, size := 1, agg := false, flds := [], fsz := [], arr := none, slc := none, tag := 3, bytes := 8, int := none, mp := none }
  | 80 => some { zv := .nilFunc, size := 1, agg := false, flds := [], fsz := [], arr := none, slc := none, tag := 3, bytes := 8, int := none, mp := none }
  | 81 => some { zv := .pointer none, size := 1, agg := false, flds := [], fsz := [], arr := none, slc := none, tag := 0, bytes := 8, int := none, mp := none }
  | 82 => some { zv := .nilFunc, size := 1, agg := false, flds := [], fsz := [], arr := none, slc := none, tag := 3, bytes := 8, int := none, mp := none }
  | 83 => some { zv := .nilFunc, size := 1, agg := false, flds := [], fsz := [], arr := none, slc := none, tag := 3, bytes := 8, int := none, mp := none }
  | 84 => some { zv := .agg #[.int .u8 0, .int .u8 0, .int .u8 0, .int .u8 0, .int .u8 0, .int .u8 0, .int .u8 0, .int .u8 0, .int .u8 0, .int .u8 0, .int .u8 0, .int .u8 0, .int .u8 0, .int .u8 0, .int .u8 0, .int .u8 0, .int .u8 0, .int .u8 0, .int .u8 0, .int .u8 0, .int .u8 0, .int .u8 0, .int .u8 0, .int .u8 0], size := 24, agg := true, flds := [], fsz := [], arr := some (24, 1), slc := none, tag := 0, bytes := 24, int := none, mp := none }
  | 85 => some { zv := .int .u64 0, size := 1, agg := false, flds := [], fsz := [], arr := none, slc := none, tag := 0, bytes := 8, int := some .u64, mp := none }
  | 86 => some { zv := .nilFunc, size := 1, agg := false, flds := [], fsz := [], arr := none, slc := none, tag := 3, bytes := 8, int := none, mp := none }
  | 87 => some { zv := .nilFunc, size := 1, agg := false, flds := [], fsz := [], arr := none, slc := none, tag := 3, bytes := 8, int := none, mp := none }
  | 89 => some { zv := .nilFunc, size := 1, agg := false, flds := [], fsz := [], arr := none, slc := none, tag := 3, bytes := 8, int := none, mp := none }
  | 90 => some { zv := .nilFunc, size := 1, agg := false, flds := [], fsz := [], arr := none, slc := none, tag := 3, bytes := 8, int := none, mp := none }
  | 91 => some { zv := .int .u32 0, size := 1, agg := false, flds := [], fsz := [], arr := none, slc := none, tag := 0, bytes := 4, int := some .u32, mp := none }
  | 93 => some { zv := .nilFunc, size := 1, agg := false, flds := [], fsz := [], arr := none, slc := none, tag := 3, bytes := 8, int := none, mp := none }
  | 95 => some { zv := .nilFunc, size := 1, agg := false, flds := [], fsz := [], arr := none, slc := none, tag := 3, bytes := 8, int := none, mp := none }
  | 97 => some { zv := .nilFunc, size := 1, agg := false, flds := [], fsz := [], arr := none, slc := none, tag := 3, bytes := 8, int := none, mp := none }
  | 98 => some { zv := .nilFunc, size := 1, agg := false, flds := [], fsz := [], arr := none, slc := none, tag := 3, bytes := 8, int := none, mp := none }
  | 99 => some { zv := .agg #[.string ⟨#[]⟩, .string ⟨#[]⟩, .nilIface], size := 3, agg := true, flds := [0, 1, 2], fsz := [1, 1, 1], arr := none, slc := none, tag := 0, bytes := 48, int := none, mp := none }
  | 100 => some { zv := .agg #[.string ⟨#[]⟩, .string ⟨#[]⟩, .nilIface], size := 3, agg := true, flds := [0, 1, 2], fsz := [1, 1, 1], arr := none, slc := none, tag := 0, bytes := 48, int := none, mp := none }
  | 101 => some { zv := .nilFunc, size := 1, agg := false, flds := [], fsz := [], arr := none, slc := none, tag := 3, bytes := 8, int := none, mp := none }
  | 102 => some { zv := .nilFunc, size := 1, agg := false, flds := [], fsz := [], arr := none, slc := none, tag := 3, bytes := 8, int := none, mp := none }
  | 103 => some { zv := .agg #[.int .u64 0, .int .u64 0, .int .u64 0, .int .u64 0, .int .u64 0, .int .u64 0, .int .u64 0, .int .u64 0, .int .u64 0, .int .u64 0, .int .u64 0, .int .u64 0, .int .u64 0, .int .u64 0, .int .u64 0, .int .u64 0, .int .u64 0, .int .u64 0, .int .u64 0, .int .u64 0], size := 20, agg := true, flds := [], fsz := [], arr := some (20, 1), slc := none, tag := 0, bytes := 160, int := none, mp := none }
  | 105 => some { zv := .nilFunc, size := 1, agg := false, flds := [], fsz := [], arr := none, slc := none, tag := 3, bytes := 8, int := none, mp := none }
  | 106 => some { zv := .nilFunc, size := 1, agg := false, flds := [], fsz := [], arr := none, slc := none, tag := 3, bytes := 8, int := none, mp := none }
  | 107 => some { zv := .pointer none, size := 1, agg := false, flds := [], fsz := [], arr := none, slc := none, tag := 0, bytes := 8, int := none, mp := none }
  | 108 => some { zv := .agg #[.string ⟨#[]⟩], size := 1, agg := true, flds := [0], fsz := [1], arr := none, slc := none, tag := 0, bytes := 16, int := none, mp := none }
  | 109 => some { zv := .agg #[.string ⟨#[]⟩], size := 1, agg := true, flds := [0], fsz := [1], arr := none, slc := none, tag := 0, bytes := 16, int := none, mp := none }
  | 110 => some { zv := .nilFunc, size := 1, agg := false, flds := [], fsz := [], arr := none, slc := none, tag := 3, bytes := 8, int := none, mp := none }
  | 112 => some { zv := .agg #[.int .u8 0, .int .u8 0], size := 2, agg := true, flds := [0, 1], fsz := [1, 1], arr := none, slc := none, tag := 0, bytes := 2, int := none, mp := none }
  | 113 => some { zv := .agg #[.int .u8 0, .int .u8 0], size := 2, agg := true, flds := [0, 1], fsz := [1, 1], arr := none, slc := none, tag := 0, bytes := 2, int := none, mp := none }
  | 114 => some { zv := .agg #[.int .u8 0, .int .u8 0, .int .u8 0, .int .u8 0, .int .u8 0, .int .u8 0, .int .u8 0, .int .u8 0, .int .u8 0, .int .u8 0, .int .u8 0, .int .u8 0, .int .u8 0, .int .u8 0, .int .u8 0, .int .u8 0, .int .u8 0, .int .u8 0, .int .u8 0, .int .u8 0, .int .u8 0, .int .u8 0, .int .u8 0, .int .u8 0, .int .u8 0, .int .u8 0, .int .u8 0, .int .u8 0, .int .u8 0, .int .u8 0, .int .u8 0, .int .u8 0], size := 32, agg := true, flds := [], fsz := [], arr := some (16, 2), slc := none, tag := 0, bytes := 32, int := none, mp := none }
  | 115 => some { zv := .agg #[.int .u8 0, .int .u8 0, .int .u8 0, .int .u8 0, .int .u8 0, .int .u8 0, .int .u8 0, .int .u8 0, .int .u8 0, .int .u8 0, .int .u8 0, .int .u8 0, .int .u8 0, .int .u8 0, .int .u8 0, .int .u8 0, .int .u8 0, .int .u8 0, .int .u8 0, .int .u8 0, .int .u8 0, .int .u8 0, .int .u8 0, .int .u8 0, .int .u8 0, .int .u8 0, .int .u8 0, .int .u8 0, .int .u8 0, .int .u8 0, .int .u8 0, .int .u8 0], size := 32, agg := true, flds := [], fsz := [], arr := some (32, 1), slc := none, tag := 0, bytes := 32, int := none, mp := none }
  | 122 => some { zv := .nilFunc, size := 1, agg := false, flds := [], fsz := [], arr := none, slc := none, tag := 3, bytes := 8, int := none, mp := none }
  | 125 => some { zv := .nilFunc, size := 1, agg := false, flds := [], fsz := [], arr := none, slc := none, tag := 3, bytes := 8, int := none, mp := none }
  | _ => none
theorem ent_ok : ∀ T t, ent T = some t → TyOk Tryd.prog T t := by
  intro T t h
  unfold ent at h
  split at h
  · cases h; exact ty1
  · cases h; exact ty2
  · cases h; exact ty3
  · cases h; exact ty4
  · cases h; exact ty5
  · cases h; exact ty9
  · cases h; exact ty12
  · cases h; exact ty20
  · cases h; exact ty21
  · cases h; exact ty22
  · cases h; exact ty23
  · cases h; exact ty24
  · cases h; exact ty26
  · cases h; exact ty27
  · cases h; exact ty28
  · cases h; exact ty29
  · cases h; exact ty30
  · cases h; exact ty31
  · cases h; exact ty32
  · cases h; exact ty33
  · cases h; exact ty34
  · cases h; exact ty36
  · cases h; exact ty37
  · cases h; exact ty38
  · cases h; exact ty39
  · cases h; exact ty40
  · cases h; exact ty41
  · cases h; exact ty42
  · cases h; exact ty43
  · cases h; exact ty45
  · cases h; exact ty47
  · cases h; exact ty48
  · cases h; exact ty49
  · cases h; exact ty50
  · cases h; exact ty51
  · cases h; exact ty52
  · cases h; exact ty53
  · cases h; exact ty54
  · cases h; exact ty55
  · cases h; exact ty56
  · cases h; exact ty57
  · cases h; exact ty58
  · cases h; exact ty59
  · cases h; exact ty60
  · cases h; exact ty62
  · cases h; exact ty63
  · cases h; exact ty64
  · cases h; exact ty65
  · cases h; exact ty66
  · cases h; exact ty67
  · cases h; exact ty68
  · cases h; exact ty69
  · cases h; exact ty70
  · cases h; exact ty71
  · cases h; exact ty72
  · cases h; exact ty74
  · cases h; exact ty75
  · cases h; exact ty76
  · cases h; exact ty77
  · cases h; exact ty80
  · cases h; exact ty81
  · cases h; exact ty82
  · cases h; exact ty83
  · cases h; exact ty84
  · cases h; exact ty85
  · cases h; exact ty86
  · cases h; exact ty87
  · cases h; exact ty89
  · cases h; exact ty90
  · cases h; exact ty91
  · cases h; exact ty93
  · cases h; exact ty95
  · cases h; exact ty97
  · cases h; exact ty98
  · cases h; exact ty99
  · cases h; exact ty100
  · cases h; exact ty101
  · cases h; exact ty102
  · cases h; exact ty103
  · cases h; exact ty105
  · cases h; exact ty106
  · cases h; exact ty107
  · cases h; exact ty108
  · cases h; exact ty109
  · cases h; exact ty110
  · cases h; exact ty112
  · cases h; exact ty113
  · cases h; exact ty114
  · cases h; exact ty115
  · cases h; exact ty122
  · cases h; exact ty125
  · cases h
theorem eq41 : flatN Tryd.prog 5 41 = some 2 := by kernel_rfl
theorem eq42 : flatN Tryd.prog 5 42 = some 2 := by kernel_rfl
theorem eq84 : flatN Tryd.prog 5 84 = some 24 := by kernel_rfl
theorem eq103 : flatN Tryd.prog 5 103 = some 20 := by kernel_rfl
theorem eq112 : flatN Tryd.prog 5 112 = some 2 := by kernel_rfl
theorem eq113 : flatN Tryd.prog 5 113 = some 2 := by kernel_rfl
theorem eq114 : flatN Tryd.prog 5 114 = some 32 := by kernel_rfl
theorem eq115 : flatN Tryd.prog 5 115 = some 32 := by kernel_rfl
def eqs : Nat → Bool
  | 41 => true
  | 42 => true
  | 84 => true
  | 103 => true
  | 112 => true
  | 113 => true
  | 114 => true
  | 115 => true
  | _ => false
theorem eqs_ok : ∀ T t xs ys r, eqs T = true → ent T = some t → xs.length = t.size → cmpInts xs ys = some r → EqAt Tryd.prog T (.agg xs.toArray) (.agg ys.toArray) r := by
  intro T t xs ys r h ht hl hc
  unfold eqs at h
  split at h
  · cases ht; exact eqAt_flat eq41 (by decide) (by kernel_rfl) (fun _ => by kernel_rfl) hl hc
  · cases ht; exact eqAt_flat eq42 (by decide) (by kernel_rfl) (fun _ => by kernel_rfl) hl hc
  · cases ht; exact eqAt_flat eq84 (by decide) (by kernel_rfl) (fun _ => by kernel_rfl) hl hc
  · cases ht; exact eqAt_flat eq103 (by decide) (by kernel_rfl) (fun _ => by kernel_rfl) hl hc
  · cases ht; exact eqAt_flat eq112 (by decide) (by kernel_rfl) (fun _ => by kernel_rfl) hl hc
  · cases ht; exact eqAt_flat eq113 (by decide) (by kernel_rfl) (fun _ => by kernel_rfl) hl hc
  · cases ht; exact eqAt_flat eq114 (by decide) (by kernel_rfl) (fun _ => by kernel_rfl) hl hc
  · cases ht; exact eqAt_flat eq115 (by decide) (by kernel_rfl) (fun _ => by kernel_rfl) hl hc
  · cases h
noncomputable def C : Ctx := { P := Tryd.prog, ent := ent, ok := ent_ok, mixed := by kernel_rfl, eqs := eqs, eqok := eqs_ok }
end Go.Proofs.YtpfjolckhlgodaaDoor
