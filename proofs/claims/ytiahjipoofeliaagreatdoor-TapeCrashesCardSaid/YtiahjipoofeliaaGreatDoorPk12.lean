/- Lemmas for this claim. -/
import Derived.Test.YtiahjipoofeliaaGreatDoorPk11
set_option maxRecDepth 100000
namespace Go.Proofs.YtiahjipoofeliaaGreatDoor.dk
open Go.ChangeShapes Go.WideShapes Go.ChangeAt Go.RowKit
section
variable {w w':World} {p:Nat} {D:DiskS} {F:Nat→Prop}
theorem RowsAt_bools {v:Value} {l:List Bool} (h:RowsAt BoolR 1 w v l):∃a cap,v=.slice a l.length cap∧l.length≤cap∧BoolsAt w a l:=by
 obtain⟨a,cap,rfl,h2,_,h4⟩:=h
 refine⟨a,cap,rfl,h2,fun k hk=>?_⟩
 obtain⟨b,off,cs,e,_,_,hcell,hr⟩:=h4 k hk
 refine⟨b,off,e,?_⟩
 have:=hcell 0 (by omega)
 unfold BoolR at hr
 rw[hr]at this
 simpa using this
end
section
variable {w w':World} {p n:Nat} {D:DiskS} {F:Nat→Prop}
theorem Crash_ok (ka:Option Addr) (kcap:Nat) (keep:List Bool) (lack:Int) (w:World) (h:DiskOk w p D F n) (hn:n≤1000000) (hk:BoolsAt w ka keep) (hap:Apart (.slice ka keep.length kcap) F) (hkc:keep.length≤kcap) (hkl:keep.length≤1000000) :
  Calls Tryz.prog 28 #[ptrTo p,.agg #[.slice ka keep.length kcap,.int .i64 lack]] w fun e w'=>e=.returned (.tuple #[])∧∃F',DiskOk w' p (D.crashed keep lack) F' 0∧Step F w F' w' :=
 (Crash_any ka kcap keep lack w h.lies hk hap hkc hkl (Nat.le_trans h.waits hn) (fun x hx=>by have:=h.good.wait h.form hx;omega) (fun f hf=>by have:=(h.good.file hf).2;omega)).mono fun _ _ ⟨he,F',hd,hs⟩ =>
  ⟨he,F',⟨hd,(h.good.crashed _ _).1,Nat.le_refl _⟩,hs⟩
end
end Go.Proofs.YtiahjipoofeliaaGreatDoor.dk
