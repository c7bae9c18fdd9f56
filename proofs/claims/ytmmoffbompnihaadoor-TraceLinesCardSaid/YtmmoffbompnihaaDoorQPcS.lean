import Derived.Test.YtmmoffbompnihaaDoorQSo
import Derived.Test.YtmmoffbompnihaaDoorLayS
namespace Go.Ab
open Go Go.Proofs
theorem xBld : Go.Proofs.Builder.Extra Tryd.prog Tryd.lays156_ren where
 sizeBuilder := by kernel_rfl
 liesBuilder := by kernel_rfl
 t5 := Tryd.underlying5
 a5 := Tryd.isAgg5
 z5 := Tryd.sizeOf5
 v5 := Tryd.zeroValue5
 infoByte := by kernel_rfl
 cellsByte := by kernel_rfl
 sizeByte := by kernel_rfl
 neB5 := by decide
theorem joinC : JoinC Tryd.prog 49 :=
 ⟨⟨Tryd.f49, Tryd.func49, by kernel_rfl, by kernel_rfl⟩, fun a c sep w => Any.strings_Join_none Tryd.lays156 xBld a c sep w, fun bk o c xs sep w h1 h2 h3 h4 h5 => Any.strings_Join Tryd.lays156 xBld bk o c xs sep w h1 h2 h3 h4 h5⟩
theorem splitC : SplitC Tryd.prog 52 0 9 :=
 ⟨⟨Tryd.f52, Tryd.func52, by kernel_rfl, by kernel_rfl⟩, fun s sep m w h1 h2 h3 => Any.strings_Split { Tryd.lays146 with } Tryd.lays146.i9 s sep m w h1 h2 h3⟩
theorem atoiC : AtoiC Tryd.prog 91 :=
 ⟨⟨Tryd.f91, Tryd.func91, by kernel_rfl, by kernel_rfl⟩, fun s v w h1 h2 => (Any.strconv_Atoi_ok Tryd.lays172 s h1 v h2 w).mono fun e w' ⟨he, hw⟩ => ⟨he, by
  rcases hw with rfl | ⟨t, rfl⟩
  ·exact Go.RowKit.Below.refl _ _
  ·exact Lib.bytesWorld_below _ _ _⟩⟩
end Go.Ab
