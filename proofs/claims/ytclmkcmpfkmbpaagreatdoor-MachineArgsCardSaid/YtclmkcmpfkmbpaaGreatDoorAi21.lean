/-
  The table holds the program's functions.
-/
import Derived.Test.YtclmkcmpfkmbpaaGreatDoorAi4
import Derived.Test.YtclmkcmpfkmbpaaGreatDoorAi20
set_option maxRecDepth 100000
namespace Go.Ai
open Go Go.Proofs
def Holds {α : Type} (p : Nat → α → Prop) : PM α → (Nat → Nat) → Prop
  | .lf, _ => True
  | .nd l v r, f => (∀ x, v = some x → p (f 0) x) ∧ Holds p l (fun k => f (2 * k + 1)) ∧ Holds p r (fun k => f (2 * k + 2))
theorem Holds.get {α : Type} {p : Nat → α → Prop} : ∀ {m : PM α} {f : Nat → Nat}, Holds p m f → ∀ {n : Nat} {x : α}, m.get n = some x → p (f n) x
  | .lf, _, _, _, _, h => by cases h
  | .nd l v r, f, hh, n, x, h => by
    rw [PM.get_nd] at h
    split at h
    · rename_i e
      rw [e]; exact hh.1 x h
    · split at h
      · rename_i e
        have := Holds.get hh.2.1 h
        rwa [show 2 * (n / 2) + 1 = n by omega] at this
      · rename_i e e'
        have := Holds.get hh.2.2 h
        rwa [show 2 * (n / 2 - 1) + 2 = n by omega] at this
def InTab (f : Nat) (fn : IF) : Prop := ∃ func, Tryz.prog.funcs[f]? = some func ∧ compF Tryz.prog func = some fn
theorem none_in {f : Nat} : ∀ x, (none : Option IF) = some x → InTab f x := fun _ h => by cases h
theorem some_in {f : Nat} {fn : IF} (h : InTab f fn) : ∀ x, some fn = some x → InTab f x := fun _ e => by cases e; exact h
theorem fn3_in : InTab 3 ir3 := ⟨Tryz.f3, by kernel_rfl, ir3_ok⟩
theorem fn4_in : InTab 4 ir4 := ⟨Tryz.f4, by kernel_rfl, ir4_ok⟩
theorem fn5_in : InTab 5 ir5 := ⟨Tryz.f5, by kernel_rfl, ir5_ok⟩
theorem fn6_in : InTab 6 ir6 := ⟨Tryz.f6, by kernel_rfl, ir6_ok⟩
theorem fn7_in : InTab 7 ir7 := ⟨Tryz.f7, by kernel_rfl, ir7_ok⟩
theorem fn8_in : InTab 8 ir8 := ⟨Tryz.f8, by kernel_rfl, ir8_ok⟩
theorem fn9_in : InTab 9 ir9 := ⟨Tryz.f9, by kernel_rfl, ir9_ok⟩
theorem fn10_in : InTab 10 ir10 := ⟨Tryz.f10, by kernel_rfl, ir10_ok⟩
theorem fn11_in : InTab 11 ir11 := ⟨Tryz.f11, by kernel_rfl, ir11_ok⟩
theorem fn13_in : InTab 13 ir13 := ⟨Tryz.f13, by kernel_rfl, ir13_ok⟩
theorem fn14_in : InTab 14 ir14 := ⟨Tryz.f14, by kernel_rfl, ir14_ok⟩
theorem fn15_in : InTab 15 ir15 := ⟨Tryz.f15, by kernel_rfl, ir15_ok⟩
theorem fn16_in : InTab 16 ir16 := ⟨Tryz.f16, by kernel_rfl, ir16_ok⟩
theorem fn17_in : InTab 17 ir17 := ⟨Tryz.f17, by kernel_rfl, ir17_ok⟩
theorem fn18_in : InTab 18 ir18 := ⟨Tryz.f18, by kernel_rfl, ir18_ok⟩
theorem fn19_in : InTab 19 ir19 := ⟨Tryz.f19, by kernel_rfl, ir19_ok⟩
theorem fn20_in : InTab 20 ir20 := ⟨Tryz.f20, by kernel_rfl, ir20_ok⟩
theorem fn21_in : InTab 21 ir21 := ⟨Tryz.f21, by kernel_rfl, ir21_ok⟩
theorem fn22_in : InTab 22 ir22 := ⟨Tryz.f22, by kernel_rfl, ir22_ok⟩
theorem fn23_in : InTab 23 ir23 := ⟨Tryz.f23, by kernel_rfl, ir23_ok⟩
theorem fn24_in : InTab 24 ir24 := ⟨Tryz.f24, by kernel_rfl, ir24_ok⟩
theorem fn25_in : InTab 25 ir25 := ⟨Tryz.f25, by kernel_rfl, ir25_ok⟩
theorem fn26_in : InTab 26 ir26 := ⟨Tryz.f26, by kernel_rfl, ir26_ok⟩
theorem fn28_in : InTab 28 ir28 := ⟨Tryz.f28, by kernel_rfl, ir28_ok⟩
theorem fn29_in : InTab 29 ir29 := ⟨Tryz.f29, by kernel_rfl, ir29_ok⟩
theorem fn30_in : InTab 30 ir30 := ⟨Tryz.f30, by kernel_rfl, ir30_ok⟩
theorem fn31_in : InTab 31 ir31 := ⟨Tryz.f31, by kernel_rfl, ir31_ok⟩
theorem fn32_in : InTab 32 ir32 := ⟨Tryz.f32, by kernel_rfl, ir32_ok⟩
theorem fn33_in : InTab 33 ir33 := ⟨Tryz.f33, by kernel_rfl, ir33_ok⟩
theorem fn34_in : InTab 34 ir34 := ⟨Tryz.f34, by kernel_rfl, ir34_ok⟩
theorem fn35_in : InTab 35 ir35 := ⟨Tryz.f35, by kernel_rfl, ir35_ok⟩
theorem fn37_in : InTab 37 ir37 := ⟨Tryz.f37, by kernel_rfl, ir37_ok⟩
theorem fn39_in : InTab 39 ir39 := ⟨Tryz.f39, by kernel_rfl, ir39_ok⟩
theorem fn40_in : InTab 40 ir40 := ⟨Tryz.f40, by kernel_rfl, ir40_ok⟩
theorem fn41_in : InTab 41 ir41 := ⟨Tryz.f41, by kernel_rfl, ir41_ok⟩
theorem fn42_in : InTab 42 ir42 := ⟨Tryz.f42, by kernel_rfl, ir42_ok⟩
theorem fn43_in : InTab 43 ir43 := ⟨Tryz.f43, by kernel_rfl, ir43_ok⟩
theorem fn44_in : InTab 44 ir44 := ⟨Tryz.f44, by kernel_rfl, ir44_ok⟩
theorem fn45_in : InTab 45 ir45 := ⟨Tryz.f45, by kernel_rfl, ir45_ok⟩
theorem fn46_in : InTab 46 ir46 := ⟨Tryz.f46, by kernel_rfl, ir46_ok⟩
theorem fn47_in : InTab 47 ir47 := ⟨Tryz.f47, by kernel_rfl, ir47_ok⟩
theorem fn48_in : InTab 48 ir48 := ⟨Tryz.f48, by kernel_rfl, ir48_ok⟩
theorem fn49_in : InTab 49 ir49 := ⟨Tryz.f49, by kernel_rfl, ir49_ok⟩
theorem fn50_in : InTab 50 ir50 := ⟨Tryz.f50, by kernel_rfl, ir50_ok⟩
theorem fn52_in : InTab 52 ir52 := ⟨Tryz.f52, by kernel_rfl, ir52_ok⟩
theorem fn53_in : InTab 53 ir53 := ⟨Tryz.f53, by kernel_rfl, ir53_ok⟩
theorem fn54_in : InTab 54 ir54 := ⟨Tryz.f54, by kernel_rfl, ir54_ok⟩
theorem fn55_in : InTab 55 ir55 := ⟨Tryz.f55, by kernel_rfl, ir55_ok⟩
theorem fn56_in : InTab 56 ir56 := ⟨Tryz.f56, by kernel_rfl, ir56_ok⟩
theorem fn58_in : InTab 58 ir58 := ⟨Tryz.f58, by kernel_rfl, ir58_ok⟩
theorem fn59_in : InTab 59 ir59 := ⟨Tryz.f59, by kernel_rfl, ir59_ok⟩
theorem fn60_in : InTab 60 ir60 := ⟨Tryz.f60, by kernel_rfl, ir60_ok⟩
theorem fn61_in : InTab 61 ir61 := ⟨Tryz.f61, by kernel_rfl, ir61_ok⟩
theorem fn64_in : InTab 64 ir64 := ⟨Tryz.f64, by kernel_rfl, ir64_ok⟩
theorem fn65_in : InTab 65 ir65 := ⟨Tryz.f65, by kernel_rfl, ir65_ok⟩
theorem fn66_in : InTab 66 ir66 := ⟨Tryz.f66, by kernel_rfl, ir66_ok⟩
theorem fn67_in : InTab 67 ir67 := ⟨Tryz.f67, by kernel_rfl, ir67_ok⟩
theorem fn68_in : InTab 68 ir68 := ⟨Tryz.f68, by kernel_rfl, ir68_ok⟩
theorem fn72_in : InTab 72 ir72 := ⟨Tryz.f72, by kernel_rfl, ir72_ok⟩
theorem fn73_in : InTab 73 ir73 := ⟨Tryz.f73, by kernel_rfl, ir73_ok⟩
theorem fn83_in : InTab 83 ir83 := ⟨Tryz.f83, by kernel_rfl, ir83_ok⟩
theorem fn84_in : InTab 84 ir84 := ⟨Tryz.f84, by kernel_rfl, ir84_ok⟩
theorem fn85_in : InTab 85 ir85 := ⟨Tryz.f85, by kernel_rfl, ir85_ok⟩
theorem fn86_in : InTab 86 ir86 := ⟨Tryz.f86, by kernel_rfl, ir86_ok⟩
theorem fn87_in : InTab 87 ir87 := ⟨Tryz.f87, by kernel_rfl, ir87_ok⟩
theorem fn88_in : InTab 88 ir88 := ⟨Tryz.f88, by kernel_rfl, ir88_ok⟩
theorem fn89_in : InTab 89 ir89 := ⟨Tryz.f89, by kernel_rfl, ir89_ok⟩
theorem fn90_in : InTab 90 ir90 := ⟨Tryz.f90, by kernel_rfl, ir90_ok⟩
theorem fn95_in : InTab 95 ir95 := ⟨Tryz.f95, by kernel_rfl, ir95_ok⟩
theorem fn96_in : InTab 96 ir96 := ⟨Tryz.f96, by kernel_rfl, ir96_ok⟩
theorem fn97_in : InTab 97 ir97 := ⟨Tryz.f97, by kernel_rfl, ir97_ok⟩
theorem fn98_in : InTab 98 ir98 := ⟨Tryz.f98, by kernel_rfl, ir98_ok⟩
theorem fn99_in : InTab 99 ir99 := ⟨Tryz.f99, by kernel_rfl, ir99_ok⟩
theorem fn100_in : InTab 100 ir100 := ⟨Tryz.f100, by kernel_rfl, ir100_ok⟩
theorem fn101_in : InTab 101 ir101 := ⟨Tryz.f101, by kernel_rfl, ir101_ok⟩
theorem fn102_in : InTab 102 ir102 := ⟨Tryz.f102, by kernel_rfl, ir102_ok⟩
theorem fn103_in : InTab 103 ir103 := ⟨Tryz.f103, by kernel_rfl, ir103_ok⟩
theorem fn104_in : InTab 104 ir104 := ⟨Tryz.f104, by kernel_rfl, ir104_ok⟩
theorem fn105_in : InTab 105 ir105 := ⟨Tryz.f105, by kernel_rfl, ir105_ok⟩
theorem fn107_in : InTab 107 ir107 := ⟨Tryz.f107, by kernel_rfl, ir107_ok⟩
theorem fn108_in : InTab 108 ir108 := ⟨Tryz.f108, by kernel_rfl, ir108_ok⟩
theorem fn109_in : InTab 109 ir109 := ⟨Tryz.f109, by kernel_rfl, ir109_ok⟩
theorem fn110_in : InTab 110 ir110 := ⟨Tryz.f110, by kernel_rfl, ir110_ok⟩
theorem fn120_in : InTab 120 ir120 := ⟨Tryz.f120, by kernel_rfl, ir120_ok⟩
theorem fn121_in : InTab 121 ir121 := ⟨Tryz.f121, by kernel_rfl, ir121_ok⟩
theorem fn122_in : InTab 122 ir122 := ⟨Tryz.f122, by kernel_rfl, ir122_ok⟩
theorem fn124_in : InTab 124 ir124 := ⟨Tryz.f124, by kernel_rfl, ir124_ok⟩
theorem fn129_in : InTab 129 ir129 := ⟨Tryz.f129, by kernel_rfl, ir129_ok⟩
theorem fn134_in : InTab 134 ir134 := ⟨Tryz.f134, by kernel_rfl, ir134_ok⟩
theorem fn135_in : InTab 135 ir135 := ⟨Tryz.f135, by kernel_rfl, ir135_ok⟩
theorem fn136_in : InTab 136 ir136 := ⟨Tryz.f136, by kernel_rfl, ir136_ok⟩
theorem fn137_in : InTab 137 ir137 := ⟨Tryz.f137, by kernel_rfl, ir137_ok⟩
theorem fn138_in : InTab 138 ir138 := ⟨Tryz.f138, by kernel_rfl, ir138_ok⟩
theorem fn140_in : InTab 140 ir140 := ⟨Tryz.f140, by kernel_rfl, ir140_ok⟩
theorem fn141_in : InTab 141 ir141 := ⟨Tryz.f141, by kernel_rfl, ir141_ok⟩
theorem fn142_in : InTab 142 ir142 := ⟨Tryz.f142, by kernel_rfl, ir142_ok⟩
theorem fn143_in : InTab 143 ir143 := ⟨Tryz.f143, by kernel_rfl, ir143_ok⟩
theorem fn144_in : InTab 144 ir144 := ⟨Tryz.f144, by kernel_rfl, ir144_ok⟩
theorem fn145_in : InTab 145 ir145 := ⟨Tryz.f145, by kernel_rfl, ir145_ok⟩
theorem fn159_in : InTab 159 ir159 := ⟨Tryz.f159, by kernel_rfl, ir159_ok⟩
theorem fn160_in : InTab 160 ir160 := ⟨Tryz.f160, by kernel_rfl, ir160_ok⟩
theorem fn161_in : InTab 161 ir161 := ⟨Tryz.f161, by kernel_rfl, ir161_ok⟩
theorem fn162_in : InTab 162 ir162 := ⟨Tryz.f162, by kernel_rfl, ir162_ok⟩
theorem fn163_in : InTab 163 ir163 := ⟨Tryz.f163, by kernel_rfl, ir163_ok⟩
theorem fn164_in : InTab 164 ir164 := ⟨Tryz.f164, by kernel_rfl, ir164_ok⟩
theorem fn165_in : InTab 165 ir165 := ⟨Tryz.f165, by kernel_rfl, ir165_ok⟩
theorem fn166_in : InTab 166 ir166 := ⟨Tryz.f166, by kernel_rfl, ir166_ok⟩
theorem tab_holds : Holds InTab tab (fun k => k) := ⟨none_in, ⟨none_in, ⟨some_in fn3_in, ⟨some_in fn7_in, ⟨some_in fn15_in, ⟨some_in fn31_in, trivial, ⟨some_in fn95_in, ⟨some_in fn159_in, trivial, trivial⟩, trivial⟩⟩, ⟨some_in fn47_in, ⟨none_in, ⟨some_in fn143_in, trivial, trivial⟩, trivial⟩, trivial⟩⟩, ⟨some_in fn23_in, ⟨some_in fn39_in, ⟨none_in, ⟨some_in fn135_in, trivial, trivial⟩, trivial⟩, ⟨some_in fn103_in, trivial, trivial⟩⟩, ⟨some_in fn55_in, ⟨some_in fn87_in, trivial, trivial⟩, trivial⟩⟩⟩, ⟨some_in fn11_in, ⟨some_in fn19_in, ⟨some_in fn35_in, ⟨some_in fn67_in, trivial, trivial⟩, ⟨some_in fn99_in, ⟨some_in fn163_in, trivial, trivial⟩, trivial⟩⟩, ⟨none_in, ⟨some_in fn83_in, trivial, trivial⟩, trivial⟩⟩, ⟨none_in, ⟨some_in fn43_in, trivial, ⟨some_in fn107_in, trivial, trivial⟩⟩, ⟨some_in fn59_in, trivial, trivial⟩⟩⟩⟩, ⟨some_in fn5_in, ⟨some_in fn9_in, ⟨some_in fn17_in, ⟨some_in fn33_in, ⟨some_in fn65_in, ⟨some_in fn129_in, trivial, trivial⟩, trivial⟩, ⟨some_in fn97_in, ⟨some_in fn161_in, trivial, trivial⟩, trivial⟩⟩, ⟨some_in fn49_in, ⟨none_in, ⟨some_in fn145_in, trivial, trivial⟩, trivial⟩, trivial⟩⟩, ⟨some_in fn25_in, ⟨some_in fn41_in, ⟨some_in fn73_in, ⟨some_in fn137_in, trivial, trivial⟩, trivial⟩, ⟨some_in fn105_in, trivial, trivial⟩⟩, ⟨none_in, ⟨some_in fn89_in, trivial, trivial⟩, ⟨some_in fn121_in, trivial, trivial⟩⟩⟩⟩, ⟨some_in fn13_in, ⟨some_in fn21_in, ⟨some_in fn37_in, trivial, ⟨some_in fn101_in, ⟨some_in fn165_in, trivial, trivial⟩, trivial⟩⟩, ⟨some_in fn53_in, ⟨some_in fn85_in, trivial, trivial⟩, trivial⟩⟩, ⟨some_in fn29_in, ⟨some_in fn45_in, ⟨none_in, ⟨some_in fn141_in, trivial, trivial⟩, trivial⟩, ⟨some_in fn109_in, trivial, trivial⟩⟩, ⟨some_in fn61_in, trivial, trivial⟩⟩⟩⟩⟩, ⟨none_in, ⟨some_in fn4_in, ⟨some_in fn8_in, ⟨some_in fn16_in, ⟨some_in fn32_in, ⟨some_in fn64_in, trivial, trivial⟩, ⟨some_in fn96_in, ⟨some_in fn160_in, trivial, trivial⟩, trivial⟩⟩, ⟨some_in fn48_in, ⟨none_in, ⟨some_in fn144_in, trivial, trivial⟩, trivial⟩, trivial⟩⟩, ⟨some_in fn24_in, ⟨some_in fn40_in, ⟨some_in fn72_in, ⟨some_in fn136_in, trivial, trivial⟩, trivial⟩, ⟨some_in fn104_in, trivial, trivial⟩⟩, ⟨some_in fn56_in, ⟨some_in fn88_in, trivial, trivial⟩, ⟨some_in fn120_in, trivial, trivial⟩⟩⟩⟩, ⟨none_in, ⟨some_in fn20_in, ⟨none_in, ⟨some_in fn68_in, trivial, trivial⟩, ⟨some_in fn100_in, ⟨some_in fn164_in, trivial, trivial⟩, trivial⟩⟩, ⟨some_in fn52_in, ⟨some_in fn84_in, trivial, trivial⟩, trivial⟩⟩, ⟨some_in fn28_in, ⟨some_in fn44_in, ⟨none_in, ⟨some_in fn140_in, trivial, trivial⟩, trivial⟩, ⟨some_in fn108_in, trivial, trivial⟩⟩, ⟨some_in fn60_in, trivial, ⟨some_in fn124_in, trivial, trivial⟩⟩⟩⟩⟩, ⟨some_in fn6_in, ⟨some_in fn10_in, ⟨some_in fn18_in, ⟨some_in fn34_in, ⟨some_in fn66_in, trivial, trivial⟩, ⟨some_in fn98_in, ⟨some_in fn162_in, trivial, trivial⟩, trivial⟩⟩, ⟨some_in fn50_in, trivial, trivial⟩⟩, ⟨some_in fn26_in, ⟨some_in fn42_in, ⟨none_in, ⟨some_in fn138_in, trivial, trivial⟩, trivial⟩, trivial⟩, ⟨some_in fn58_in, ⟨some_in fn90_in, trivial, trivial⟩, ⟨some_in fn122_in, trivial, trivial⟩⟩⟩⟩, ⟨some_in fn14_in, ⟨some_in fn22_in, ⟨none_in, ⟨none_in, ⟨some_in fn134_in, trivial, trivial⟩, trivial⟩, ⟨some_in fn102_in, ⟨some_in fn166_in, trivial, trivial⟩, trivial⟩⟩, ⟨some_in fn54_in, ⟨some_in fn86_in, trivial, trivial⟩, trivial⟩⟩, ⟨some_in fn30_in, ⟨some_in fn46_in, ⟨none_in, ⟨some_in fn142_in, trivial, trivial⟩, trivial⟩, ⟨some_in fn110_in, trivial, trivial⟩⟩, trivial⟩⟩⟩⟩⟩
theorem tab_ok : TabOk Tryz.prog tab := fun _ _ h => tab_holds.get h
theorem mixed_ok : Tryz.prog.follows .mixedOrders = true := by kernel_rfl
theorem ai [Sig] [Know] [KOk] (hO : OvsOk Tryz.prog) (n : Nat) : CallsOk Tryz.prog (callF tab n) := callF_sound mixed_ok tab_ok hO n
theorem ex [Sig] [Know] [KOk] (hO : OvsOk Tryz.prog) (n : Nat) : ExOk Tryz.prog tab n := (all_ok mixed_ok tab_ok hO n).1
end Go.Ai
