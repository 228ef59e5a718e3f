/- A part of TopBudgetHonest. -/
import Derived.Test.YtboflajfckfphaaGreatDoorM
namespace Go.Refl
open Go.Proofs
theorem aY:pW.fits 19=true:=oK
theorem aZ:pW.runs E0 1000000=true:=oK
theorem aa:pS.fits 19=true:=oK
theorem ab:pS.runs E0 1000000=true:=oK
theorem XL:ku.fits 19=true:=oK
theorem XM:ku.runs E0 1000000=true:=oK
theorem XN:kw.fits 19=true:=oK
theorem XO:kw.runs E0 1000000=true:=oK
theorem Wk:aR.fits 19=true:=oK
theorem Wl:aR.runs E0 1000000=true:=oK
theorem XP:kz.fits 19=true:=oK
theorem XQ:kz.runs E0 1000000=true:=oK
theorem XR:lA.fits 19=true:=oK
theorem XS:lA.runs E0 1000000=true:=oK
end Go.Refl
