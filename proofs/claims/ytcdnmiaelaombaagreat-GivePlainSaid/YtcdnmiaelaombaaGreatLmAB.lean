/- Words for what a loop's head knows, and for the cells of a value. -/
import Derived.Test.YtcdnmiaelaombaaGreatLmAA
set_option linter.unusedVariables false
set_option linter.unusedSimpArgs false
set_option linter.unnecessarySimpa false
set_option linter.all false
namespace Go.Lm
abbrev TT := Nat → List SVal → Option Res
def LS.k0 (s : LS) : SVal := s.xs.headD .undef
def LS.k1 (s : LS) : SVal := s.xs.tail.headD .undef
def LS.k2 (s : LS) : SVal := s.xs.tail.tail.headD .undef
def LS.k3 (s : LS) : SVal := s.xs.tail.tail.tail.headD .undef
def LS.k4 (s : LS) : SVal := s.xs.tail.tail.tail.tail.headD .undef
def LS.k5 (s : LS) : SVal := s.xs.tail.tail.tail.tail.tail.headD .undef
def LS.k6 (s : LS) : SVal := s.xs.tail.tail.tail.tail.tail.tail.headD .undef
def LS.k7 (s : LS) : SVal := s.xs.tail.tail.tail.tail.tail.tail.tail.headD .undef
def LS.k8 (s : LS) : SVal := s.xs.tail.tail.tail.tail.tail.tail.tail.tail.headD .undef
def LS.k9 (s : LS) : SVal := s.xs.tail.tail.tail.tail.tail.tail.tail.tail.tail.headD .undef
def SVal.c0 (x : SVal) : SVal := x.cs.headD .undef
def SVal.c1 (x : SVal) : SVal := x.cs.tail.headD .undef
def SVal.c2 (x : SVal) : SVal := x.cs.tail.tail.headD .undef
def SVal.c3 (x : SVal) : SVal := x.cs.tail.tail.tail.headD .undef
def SVal.c4 (x : SVal) : SVal := x.cs.tail.tail.tail.tail.headD .undef
def SVal.c5 (x : SVal) : SVal := x.cs.tail.tail.tail.tail.tail.headD .undef
def SVal.c6 (x : SVal) : SVal := x.cs.tail.tail.tail.tail.tail.tail.headD .undef
end Go.Lm
