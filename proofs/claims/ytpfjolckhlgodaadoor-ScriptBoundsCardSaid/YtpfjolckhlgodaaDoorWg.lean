/- More rules of calls. -/
import Derived.Test.YtpfjolckhlgodaaDoorWe
import Derived.Test.YtpfjolckhlgodaaDoorWf
namespace Go.Proofs.YtpfjolckhlgodaaDoor
open Go Go.RowKit
section rules
variable {C : Ctx} {B : Bas} {nt : Nat} {ρ : Option Nat} {env : Env} {own : Own} {dfs : List Deferred} {K : Exit → St → Prop} {σ : St}
/-- A call whose arguments may be slices, and which gives a plain value and turns nothing. -/
theorem ox_conv {zs : List Nat} {N : St → Prop} {d : Nat} {ty : TypeId} {pos : String} {af : Array Edge} {g : Option (Nat × Bool)} {v : Value} (f : Nat) {first cap : List Value} {fo : Operand} {xs : List Operand} {es : List EV} {as : List AS} {at_ : Array TypeId} (he : Enters C.P f)
    (hc : Con C.P f as (fun W => PV W v)) (hf : ev env fo = some (.v (.func (.func f) ⟨first⟩ ⟨cap⟩))) (hxs : evs env xs = some es) {fs : List EV} (hfs : appL (mapV first) (appL es (mapV cap)) = fs) (ha : AM own fs as) (hd : Nat.blt d nt = true)
    (hN : N ⟨(d, .v v) :: env, own, dfs⟩) : OX C B nt zs ⟨some d, .call ⟨.value fo, ⟨xs⟩, at_⟩, ty, pos, af, g⟩ N ⟨env, own, dfs⟩ := by
  intro a W Z hr hz nxt Q hn
  unfold Oper.wp
  rw [run_call hr hf he rfl _ rfl, Oper.upon_enter]
  rw [← hfs, appL_eq, appL_eq, mapV_eq, mapV_eq] at ha
  have hds : Dens own (first.map EV.v ++ (es ++ cap.map EV.v)) (first ++ (xs.map a.eval ++ cap)) := (Dens.vals _).app ((evs_den hr hxs).app (Dens.vals _))
  have hcall := hc W _ (ha.ok hr.mem hds)
  rw [show (⟨first⟩ : Array Value) ++ (xs.map a.eval).toArray ++ ⟨cap⟩ = (first ++ (xs.map a.eval ++ cap)).toArray by simp]
  refine hcall.mono ?_
  rintro e W' ⟨rfl, hx⟩
  exact hn _ _ _ hN (hr.put (by simpa using hd) _ _ (OLe.refl _) rfl (hr.mem.ext' hx)) hz (Kept.ext (by simp [kind]) hx)
theorem at_one {xs : List Value} {off : Nat} {v : Value} (h : nth xs off = some v) : At xs off [v] := fun j u hj => by
  cases j with
  | zero => simp at hj; subst hj; rw [nth_eq] at h; exact h
  | succ j => simp at hj
/-- What the specifications of slices say of their lengths. -/
def AsB : List AS → Prop
  | [] => True
  | .r n c _ :: r => n ≤ c ∧ AsB r
  | _ :: r => AsB r
theorem ass_b {W : World} : ∀ {as : List AS} {us : List Value}, ASs W as us → AsB as
  | [], [], _ => trivial
  | .x _ :: as, _ :: us, h => ass_b (as := as) (us := us) h.2
  | .q _ :: as, _ :: us, h => ass_b (as := as) (us := us) h.2
  | .r n c ys :: as, u :: us, h => by
    obtain ⟨⟨a, _, _, _, h1⟩, h'⟩ := h
    exact ⟨h1, ass_b (as := as) (us := us) h'⟩
  | [], _ :: _, h => h.elim
  | .x _ :: _, [], h => h.elim
  | .r _ _ _ :: _, [], h => h.elim
  | .q _ :: _, [], h => h.elim
theorem con_b {f : FuncId} {fn : Func} {c : Code} {as : List AS} {R : World → Ending → World → Prop} (hf : C.P.funcs[f]? = some fn) (hb : fn.body = some c) (nt : Nat) (hnt : fn.ntmps = nt) (hsz : Nat.ble as.length nt = true)
    (h : ∀ (W : World) (α : Nat → Option Addr), AsB as → JC C (Bas.of W) nt none c (Fend C (Bas.of W) nt fn (R W)) ⟨mkEnv 0 (entE 0 as), entO α 0 as, []⟩) : Con C.P f as R :=
  fun W us hus => con_e hf hb nt hnt hsz (fun W α => h W α (ass_b hus)) W us hus
/-- The address of element m, the index being told in another way. -/
theorem ov_indexm (m : Nat) {dst : Option Tmp} {T : TypeId} {x y : Operand} {ty : TypeId} {pos : String} {af : Array Edge} {g : Option (Nat × Bool)} {i off n c es : Nat} {k : IntKind} {z : Int} {t : Ty} (hx : ev env x = some (.s i off n c)) (hy : ev env y = some (.v (.int k z))) (ht : C.ent T = some t) (he : elemSize C t = some es) (hz : z = (m : Int)) (hm : m < n) (hc : n ≤ c) :
    OV C B nt ⟨dst, .indexAddr T x y, ty, pos, af, g⟩ (.p i (off + m * es)) ⟨env, own, dfs⟩ := by
  subst hz
  exact ov_index hx hy ht he rfl hm hc
end rules
/-- Whole numbers as the elements of a row. -/
def Zi.e (z : Int) : List Value := [.int .i64 z]
theorem Zi.el (z : Int) : (Zi.e z).length = 1 := rfl
theorem Zi.e1 (z : Int) : (Zi.e z).all Value.oneCell = true := rfl
end Go.Proofs.YtpfjolckhlgodaaDoor
