import Derived.Test.YtfacddeaobogjaaF12
import Derived.Test.YtfacddeaobogjaaProg
set_option linter.unusedVariables false
set_option linter.unusedSimpArgs false
set_option linter.unnecessarySimpa false
set_option linter.unusedVariables false
set_option linter.unusedSimpArgs false
/- The family of none, and the bodies that are run in place. -/
namespace Go.Proofs.Ytfacddeaobogjaa.N
open Go.DF
set_option maxRecDepth 100000
@[reducible] def noFam : Fam where
  D := fun _ => Unit
  dflt := fun _ => ()
  ct := fun _ => .bool
  get := fun _ _ => none
  fold := fun _ _ => none
  rep := fun _ _ _ _ _ => False
  one := fun _ _ _ _ _ h => h.elim
  mono := fun _ _ _ _ _ _ _ _ _ h => h.elim
  opn := fun _ _ _ _ _ h => h.elim
  cls := fun _ _ _ _ _ _ h => by simp at h
instance famI : Fam := noFam
noncomputable def bodies : List (Body Try.prog) := [⟨11, Try.f11, Try.func11, by kernel_rfl, by kernel_rfl, false⟩, ⟨12, Try.f12, Try.func12, by kernel_rfl, by kernel_rfl, false⟩,
  ⟨13, Try.f13, Try.func13, by kernel_rfl, by kernel_rfl, false⟩,
  ⟨14, Try.f14, Try.func14, by kernel_rfl, by kernel_rfl, false⟩,
  ⟨15, Try.f15, Try.func15, by kernel_rfl, by kernel_rfl, false⟩,
  ⟨16, Try.f16, Try.func16, by kernel_rfl, by kernel_rfl, false⟩,
  ⟨17, Try.f17, Try.func17, by kernel_rfl, by kernel_rfl, false⟩,
  ⟨18, Try.f18, Try.func18, by kernel_rfl, by kernel_rfl, false⟩,
  ⟨19, Try.f19, Try.func19, by kernel_rfl, by kernel_rfl, false⟩,
  ⟨20, Try.f20, Try.func20, by kernel_rfl, by kernel_rfl, true⟩,
  ⟨21, Try.f21, Try.func21, by kernel_rfl, by kernel_rfl, false⟩,
  ⟨22, Try.f22, Try.func22, by kernel_rfl, by kernel_rfl, false⟩,
  ⟨23, Try.f23, Try.func23, by kernel_rfl, by kernel_rfl, false⟩,
  ⟨24, Try.f24, Try.func24, by kernel_rfl, by kernel_rfl, false⟩,
  ⟨25, Try.f25, Try.func25, by kernel_rfl, by kernel_rfl, false⟩,
  ⟨26, Try.f26, Try.func26, by kernel_rfl, by kernel_rfl, false⟩,
  ⟨27, Try.f27, Try.func27, by kernel_rfl, by kernel_rfl, false⟩,
  ⟨28, Try.f28, Try.func28, by kernel_rfl, by kernel_rfl, false⟩,
  ⟨29, Try.f29, Try.func29, by kernel_rfl, by kernel_rfl, false⟩,
  ⟨30, Try.f30, Try.func30, by kernel_rfl, by kernel_rfl, false⟩,
  ⟨31, Try.f31, Try.func31, by kernel_rfl, by kernel_rfl, false⟩,
  ⟨32, Try.f32, Try.func32, by kernel_rfl, by kernel_rfl, false⟩,
  ⟨33, Try.f33, Try.func33, by kernel_rfl, by kernel_rfl, false⟩,
  ⟨34, Try.f34, Try.func34, by kernel_rfl, by kernel_rfl, false⟩,
  ⟨35, Try.f35, Try.func35, by kernel_rfl, by kernel_rfl, false⟩,
  ⟨36, Try.f36, Try.func36, by kernel_rfl, by kernel_rfl, false⟩,
  ⟨37, Try.f37, Try.func37, by kernel_rfl, by kernel_rfl, false⟩,
  ⟨38, Try.f38, Try.func38, by kernel_rfl, by kernel_rfl, false⟩,
  ⟨39, Try.f39, Try.func39, by kernel_rfl, by kernel_rfl, false⟩,
  ⟨40, Try.f40, Try.func40, by kernel_rfl, by kernel_rfl, false⟩,
  ⟨41, Try.f41, Try.func41, by kernel_rfl, by kernel_rfl, false⟩,
  ⟨42, Try.f42, Try.func42, by kernel_rfl, by kernel_rfl, false⟩,
  ⟨43, Try.f43, Try.func43, by kernel_rfl, by kernel_rfl, false⟩,
  ⟨44, Try.f44, Try.func44, by kernel_rfl, by kernel_rfl, false⟩,
  ⟨45, Try.f45, Try.func45, by kernel_rfl, by kernel_rfl, false⟩,
  ⟨46, Try.f46, Try.func46, by kernel_rfl, by kernel_rfl, false⟩,
  ⟨47, Try.f47, Try.func47, by kernel_rfl, by kernel_rfl, false⟩,
  ⟨48, Try.f48, Try.func48, by kernel_rfl, by kernel_rfl, false⟩,
  ⟨49, Try.f49, Try.func49, by kernel_rfl, by kernel_rfl, false⟩,
  ⟨50, Try.f50, Try.func50, by kernel_rfl, by kernel_rfl, false⟩,
  ⟨51, Try.f51, Try.func51, by kernel_rfl, by kernel_rfl, false⟩,
  ⟨52, Try.f52, Try.func52, by kernel_rfl, by kernel_rfl, false⟩,
  ⟨53, Try.f53, Try.func53, by kernel_rfl, by kernel_rfl, false⟩,
  ⟨54, Try.f54, Try.func54, by kernel_rfl, by kernel_rfl, false⟩,
  ⟨55, Try.f55, Try.func55, by kernel_rfl, by kernel_rfl, false⟩,
  ⟨56, Try.f56, Try.func56, by kernel_rfl, by kernel_rfl, false⟩,
  ⟨57, Try.f57, Try.func57, by kernel_rfl, by kernel_rfl, false⟩,
  ⟨58, Try.f58, Try.func58, by kernel_rfl, by kernel_rfl, false⟩,
  ⟨59, Try.f59, Try.func59, by kernel_rfl, by kernel_rfl, false⟩,
  ⟨60, Try.f60, Try.func60, by kernel_rfl, by kernel_rfl, false⟩,
  ⟨61, Try.f61, Try.func61, by kernel_rfl, by kernel_rfl, false⟩,
  ⟨62, Try.f62, Try.func62, by kernel_rfl, by kernel_rfl, false⟩,
  ⟨63, Try.f63, Try.func63, by kernel_rfl, by kernel_rfl, false⟩,
  ⟨64, Try.f64, Try.func64, by kernel_rfl, by kernel_rfl, false⟩,
  ⟨65, Try.f65, Try.func65, by kernel_rfl, by kernel_rfl, false⟩,
  ⟨66, Try.f66, Try.func66, by kernel_rfl, by kernel_rfl, false⟩,
  ⟨67, Try.f67, Try.func67, by kernel_rfl, by kernel_rfl, false⟩,
  ⟨68, Try.f68, Try.func68, by kernel_rfl, by kernel_rfl, false⟩,
  ⟨69, Try.f69, Try.func69, by kernel_rfl, by kernel_rfl, false⟩,
  ⟨70, Try.f70, Try.func70, by kernel_rfl, by kernel_rfl, false⟩,
  ⟨71, Try.f71, Try.func71, by kernel_rfl, by kernel_rfl, false⟩,
  ⟨72, Try.f72, Try.func72, by kernel_rfl, by kernel_rfl, false⟩,
  ⟨73, Try.f73, Try.func73, by kernel_rfl, by kernel_rfl, false⟩,
  ⟨74, Try.f74, Try.func74, by kernel_rfl, by kernel_rfl, false⟩,
  ⟨75, Try.f75, Try.func75, by kernel_rfl, by kernel_rfl, false⟩,
  ⟨76, Try.f76, Try.func76, by kernel_rfl, by kernel_rfl, false⟩,
  ⟨77, Try.f77, Try.func77, by kernel_rfl, by kernel_rfl, false⟩,
  ⟨78, Try.f78, Try.func78, by kernel_rfl, by kernel_rfl, false⟩,
  ⟨79, Try.f79, Try.func79, by kernel_rfl, by kernel_rfl, false⟩,
  ⟨80, Try.f80, Try.func80, by kernel_rfl, by kernel_rfl, false⟩,
  ⟨81, Try.f81, Try.func81, by kernel_rfl, by kernel_rfl, false⟩,
  ⟨82, Try.f82, Try.func82, by kernel_rfl, by kernel_rfl, false⟩,
  ⟨83, Try.f83, Try.func83, by kernel_rfl, by kernel_rfl, false⟩,
  ⟨84, Try.f84, Try.func84, by kernel_rfl, by kernel_rfl, false⟩,
  ⟨85, Try.f85, Try.func85, by kernel_rfl, by kernel_rfl, false⟩,
  ⟨86, Try.f86, Try.func86, by kernel_rfl, by kernel_rfl, false⟩,
  ⟨87, Try.f87, Try.func87, by kernel_rfl, by kernel_rfl, false⟩,
  ⟨88, Try.f88, Try.func88, by kernel_rfl, by kernel_rfl, false⟩,
  ⟨89, Try.f89, Try.func89, by kernel_rfl, by kernel_rfl, false⟩,
  ⟨90, Try.f90, Try.func90, by kernel_rfl, by kernel_rfl, false⟩,
  ⟨91, Try.f91, Try.func91, by kernel_rfl, by kernel_rfl, false⟩,
  ⟨92, Try.f92, Try.func92, by kernel_rfl, by kernel_rfl, false⟩,
  ⟨93, Try.f93, Try.func93, by kernel_rfl, by kernel_rfl, false⟩,
  ⟨94, Try.f94, Try.func94, by kernel_rfl, by kernel_rfl, false⟩,
  ⟨95, Try.f95, Try.func95, by kernel_rfl, by kernel_rfl, false⟩,
  ⟨96, Try.f96, Try.func96, by kernel_rfl, by kernel_rfl, false⟩,
  ⟨97, Try.f97, Try.func97, by kernel_rfl, by kernel_rfl, false⟩,
  ⟨98, Try.f98, Try.func98, by kernel_rfl, by kernel_rfl, false⟩,
  ⟨99, Try.f99, Try.func99, by kernel_rfl, by kernel_rfl, false⟩,
  ⟨100, Try.f100, Try.func100, by kernel_rfl, by kernel_rfl, false⟩,
  ⟨101, Try.f101, Try.func101, by kernel_rfl, by kernel_rfl, false⟩,
  ⟨102, Try.f102, Try.func102, by kernel_rfl, by kernel_rfl, false⟩]
noncomputable def ctK : Cx Try.prog := (cx0 [] [] [] : Cx Try.prog).closed.deep bodies 1000000 20
theorem p11 : Pure1 Try.prog 11 [] (.bool (.lit true)) :=
  pure1_of_fin (ct := ctK) (bs := bodies) (fuel := 1000000) (ps := [Nat.le 1 1, Nat.le 1 1, Nat.le 2 2]) (by kernel_rfl) (by
    intro p hp
    simp only [List.mem_cons, List.not_mem_nil, or_false] at hp
    rcases hp with rfl | rfl | rfl <;> exact Nat.le.refl)
end Go.Proofs.Ytfacddeaobogjaa.N
