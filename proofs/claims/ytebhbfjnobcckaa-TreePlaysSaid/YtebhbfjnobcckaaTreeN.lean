/-
  LAYER 6: strings.Repeat, by the shelf; Key.
-/
import Derived.Test.YtebhbfjnobcckaaTreeG
import Derived.Shelf.Strings.Repeat
import Derived.Deep.RegionHeld3
namespace Go.Proofs.Ytebhbfjnobcckaa
open Go Go.RowKit Go.Shelf

def ren105 : Go.Shelf.Ren := ⟨fun | 105 => 37 | 212 => 45 | 99 => 25 | 165 => 46 | 166 => 47 | 170 => 48 | 169 => 49 | 263 => 52 | 264 => 53 | 206 => 38 | 240 => 54 | 241 => 55 | 276 => 58 | 277 => 59 | n => n, fun | 9 => 9 | 3 => 3 | 4 => 4 | 20 => 20 | 0 => 0 | 46 => 80 | 109 => 81 | 5 => 5 | 72 => 85 | 76 => 89 | 51 => 93 | 146 => 94 | 53 => 26 | 148 => 96 | 70 => 83 | 37 => 27 | 75 => 88 | 127 => 98 | 164 => 100 | 80 => 92 | n => n, fun | n => n⟩
theorem lays105 : Go.Proofs.Lays.n105 Try.prog ren105 := {
  mixed := by kernel_rfl
  f99 := Try.func25.trans (congrArg some (by kernel_rfl))
  f105 := Try.func37.trans (congrArg some (by kernel_rfl))
  f165 := Try.func46.trans (congrArg some (by kernel_rfl))
  f166 := Try.func47.trans (congrArg some (by kernel_rfl))
  f169 := Try.func49.trans (congrArg some (by kernel_rfl))
  f170 := Try.func48.trans (congrArg some (by kernel_rfl))
  f206 := Try.func38.trans (congrArg some (by kernel_rfl))
  f212 := Try.func45.trans (congrArg some (by kernel_rfl))
  f240 := Try.func54.trans (congrArg some (by kernel_rfl))
  f241 := Try.func55.trans (congrArg some (by kernel_rfl))
  f263 := Try.func52.trans (congrArg some (by kernel_rfl))
  f264 := Try.func53.trans (congrArg some (by kernel_rfl))
  f276 := Try.func58.trans (congrArg some (by kernel_rfl))
  f277 := Try.func59.trans (congrArg some (by kernel_rfl))
  t0 := Try.underlying0
  a0 := Try.isAgg0
  z0 := Try.sizeOf0
  v0 := Try.zeroValue0
  t3 := Try.underlying3
  a3 := Try.isAgg3
  z3 := Try.sizeOf3
  v3 := Try.zeroValue3
  t4 := Try.underlying4
  a4 := Try.isAgg4
  z4 := Try.sizeOf4
  v4 := Try.zeroValue4
  t5 := Try.underlying5
  a5 := Try.isAgg5
  z5 := Try.sizeOf5
  v5 := Try.zeroValue5
  t9 := Try.underlying9
  a9 := Try.isAgg9
  z9 := Try.sizeOf9
  v9 := Try.zeroValue9
  t20 := Try.underlying20
  a20 := Try.isAgg20
  z20 := Try.sizeOf20
  v20 := Try.zeroValue20
  t37 := Try.underlying27
  a37 := Try.isAgg27
  z37 := Try.sizeOf27
  v37 := Try.zeroValue27
  t46 := Try.underlying80
  a46 := Try.isAgg80
  z46 := Try.sizeOf80
  v46 := Try.zeroValue80
  t51 := Try.underlying93
  a51 := Try.isAgg93
  z51 := Try.sizeOf93
  v51 := Try.zeroValue93
  t53 := Try.underlying26
  a53 := Try.isAgg26
  z53 := Try.sizeOf26
  v53 := Try.zeroValue26
  t70 := Try.underlying83
  a70 := Try.isAgg83
  z70 := Try.sizeOf83
  v70 := Try.zeroValue83
  t72 := Try.underlying85
  a72 := Try.isAgg85
  z72 := Try.sizeOf85
  v72 := Try.zeroValue85
  t75 := Try.underlying88
  a75 := Try.isAgg88
  z75 := Try.sizeOf88
  v75 := Try.zeroValue88
  t76 := Try.underlying89
  a76 := Try.isAgg89
  z76 := Try.sizeOf89
  v76 := Try.zeroValue89
  t109 := Try.underlying81
  a109 := Try.isAgg81
  z109 := Try.sizeOf81
  v109 := Try.zeroValue81
  t127 := Try.underlying98
  a127 := Try.isAgg98
  z127 := Try.sizeOf98
  v127 := Try.zeroValue98
  t146 := Try.underlying94
  a146 := Try.isAgg94
  z146 := Try.sizeOf94
  v146 := Try.zeroValue94
  t148 := Try.underlying96
  a148 := Try.isAgg96
  z148 := Try.sizeOf96
  v148 := Try.zeroValue96
  t164 := Try.underlying100
  a164 := Try.isAgg100
  z164 := Try.sizeOf100
  v164 := Try.zeroValue100 }
theorem extra105 : Builder.Extra Try.prog ren105 := {
  sizeBuilder := by kernel_rfl
  liesBuilder := by kernel_rfl
  t5 := lays105.t5
  a5 := lays105.a5
  z5 := lays105.z5
  v5 := lays105.v5
  infoByte := by kernel_rfl
  cellsByte := by kernel_rfl
  sizeByte := by kernel_rfl
  neB5 := by decide }
theorem repeat_any (s : ByteArray) (n : Int) (c : Nat) (w : World) (hn : n = (c : Int)) (hc : c ≤ 9223372036854775807) (hl : s.size * c ≤ 140737488355328) :
    Calls Try.prog 37 #[.string s, .int .i64 n] w fun e w' => ∃ K : ByteArray, e = .returned (.string K) ∧ Below w.heap.size w w' := by
  subst hn
  refine (show Calls Try.prog 37 _ w _ from Any.strings_Repeat lays105 extra105 s c w hc hl).mono ?_
  rintro e w' ⟨rfl, hb⟩
  exact ⟨_, rfl, hb⟩
end Go.Proofs.Ytebhbfjnobcckaa
