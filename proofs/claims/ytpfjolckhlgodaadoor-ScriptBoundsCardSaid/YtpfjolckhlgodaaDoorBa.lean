/- Records, as plain pairs of numbers. -/
namespace Go.Proofs.YtpfjolckhlgodaaDoor
structure Rc where
  k : Int
  v : Int
deriving DecidableEq, Inhabited
def within (x : Int) : Bool := decide (-1099511627776 ≤ x) && decide (x ≤ 1099511627776)
def Rc.may (r : Rc) : Bool := within r.k && within r.v
/-- The order of records. -/
def rord (a b : Rc) : Int := if a.k < b.k ∨ a.k = b.k ∧ a.v < b.v then -1 else if a = b then 0 else 1
end Go.Proofs.YtpfjolckhlgodaaDoor
