/- The table of functions F43: each code fits the program's. -/
import Derived.Test.YtflfnkdhmcfjlaaCall
import Derived.Test.YtflfnkdhmcfjlaaCall
import Derived.Test.YtflfnkdhmcfjlaaProg
import Derived.KernelRfl
import Derived.Test.YtflfnkdhmcfjlaaCA
import Derived.Test.YtflfnkdhmcfjlaaCB
import Derived.Test.YtflfnkdhmcfjlaaCG
import Derived.Test.YtflfnkdhmcfjlaaCC
import Derived.Test.YtflfnkdhmcfjlaaCX19
import Derived.Test.YtflfnkdhmcfjlaaCX20
import Derived.Test.YtflfnkdhmcfjlaaCX21
import Derived.Test.YtflfnkdhmcfjlaaCX22
import Derived.Test.YtflfnkdhmcfjlaaCX23
import Derived.Test.YtflfnkdhmcfjlaaCX24
import Derived.Test.YtflfnkdhmcfjlaaCX25
namespace Go.Am
open Go Go.Proofs
set_option maxRecDepth 100000
noncomputable def tF43 : Tr := (.node 95 (.node 44 (.node 32 (.node 24 (.node 21 (.node 20 (.leaf 19 c19) (.leaf 20 c20)) (.node 22 (.leaf 21 c21) (.node 23 (.leaf 22 c22) (.leaf 23 c23)))) (.node 29 (.node 25 (.leaf 24 c24) (.node 28 (.leaf 25 c25) (.leaf 28 c28))) (.node 30 (.leaf 29 c29) (.node 31 (.leaf 30 c30) (.leaf 31 c31))))) (.node 38 (.node 35 (.node 33 (.leaf 32 c32) (.node 34 (.leaf 33 c33) (.leaf 34 c34))) (.node 36 (.leaf 35 c35) (.node 37 (.leaf 36 c36) (.leaf 37 c37)))) (.node 41 (.node 39 (.leaf 38 c38) (.node 40 (.leaf 39 c39) (.leaf 40 c40))) (.node 42 (.leaf 41 c41) (.node 43 (.leaf 42 c42) (.leaf 43 c43)))))) (.node 82 (.node 50 (.node 46 (.node 45 (.leaf 44 c44) (.leaf 45 c45)) (.node 47 (.leaf 46 c46) (.node 49 (.leaf 47 c47) (.leaf 49 c49)))) (.node 79 (.node 52 (.leaf 50 c50) (.node 54 (.leaf 52 c52) (.leaf 54 c54))) (.node 80 (.leaf 79 c79) (.node 81 (.leaf 80 c80) (.leaf 81 c81))))) (.node 88 (.node 85 (.node 83 (.leaf 82 c82) (.node 84 (.leaf 83 c83) (.leaf 84 c84))) (.node 86 (.leaf 85 c85) (.node 87 (.leaf 86 c86) (.leaf 87 c87)))) (.node 92 (.node 89 (.leaf 88 c88) (.node 91 (.leaf 89 c89) (.leaf 91 c91))) (.node 93 (.leaf 92 c92) (.node 94 (.leaf 93 c93) (.leaf 94 c94))))))) (.node 121 (.node 106 (.node 100 (.node 97 (.node 96 (.leaf 95 c95) (.leaf 96 c96)) (.node 98 (.leaf 97 c97) (.node 99 (.leaf 98 c98) (.leaf 99 c99)))) (.node 103 (.node 101 (.leaf 100 c100) (.node 102 (.leaf 101 c101) (.leaf 102 c102))) (.node 104 (.leaf 103 c103) (.node 105 (.leaf 104 c104) (.leaf 105 c105))))) (.node 112 (.node 109 (.node 107 (.leaf 106 c106) (.node 108 (.leaf 107 c107) (.leaf 108 c108))) (.node 110 (.leaf 109 c109) (.node 111 (.leaf 110 c110) (.leaf 111 c111)))) (.node 116 (.node 113 (.leaf 112 c112) (.node 114 (.leaf 113 c113) (.leaf 114 c114))) (.node 119 (.leaf 116 c116) (.node 120 (.leaf 119 c119) (.leaf 120 c120)))))) (.node 150 (.node 144 (.node 141 (.node 122 (.leaf 121 c121) (.leaf 122 c122)) (.node 142 (.leaf 141 c141) (.node 143 (.leaf 142 c142) (.leaf 143 c143)))) (.node 147 (.node 145 (.leaf 144 c144) (.node 146 (.leaf 145 c145) (.leaf 146 c146))) (.node 148 (.leaf 147 c147) (.node 149 (.leaf 148 c148) (.leaf 149 c149))))) (.node 163 (.node 153 (.node 151 (.leaf 150 c150) (.node 152 (.leaf 151 c151) (.leaf 152 c152))) (.node 154 (.leaf 153 c153) (.node 155 (.leaf 154 c154) (.leaf 155 c155)))) (.node 168 (.node 164 (.leaf 163 c163) (.node 165 (.leaf 164 c164) (.leaf 165 c165))) (.node 169 (.leaf 168 c168) (.node 1090 (.leaf 169 c169) (.leaf 1090 c1090))))))))
noncomputable def F43 : Nat → Option Fn := tF43.get
theorem hasA : HasA F43 := ⟨rfl, rfl, rfl, rfl, rfl, rfl, rfl, rfl, rfl, rfl, rfl, rfl, rfl, rfl, rfl, rfl, rfl, rfl, rfl, rfl, rfl, rfl, rfl⟩
theorem hasB : HasB F43 := ⟨rfl, rfl, rfl, rfl, rfl, rfl, rfl, rfl, rfl, rfl, rfl, rfl, rfl, rfl, rfl, rfl, rfl, rfl, rfl, rfl, rfl⟩
theorem hasG : HasG F43 := ⟨rfl, rfl, rfl, rfl, rfl, rfl, rfl, rfl, rfl, rfl, rfl, rfl, rfl, rfl, rfl, rfl, rfl, rfl, rfl, rfl, rfl, rfl, rfl⟩
theorem hasC : HasC F43 := ⟨rfl, rfl, rfl, rfl, rfl, rfl, rfl, rfl, rfl, rfl, rfl, rfl, rfl, rfl, rfl, rfl, rfl, rfl⟩
theorem hasX19 : HasX19 F43 := ⟨rfl⟩
theorem hasX20 : HasX20 F43 := ⟨rfl⟩
theorem hasX21 : HasX21 F43 := ⟨rfl⟩
theorem hasX22 : HasX22 F43 := ⟨rfl⟩
theorem hasX23 : HasX23 F43 := ⟨rfl⟩
theorem hasX24 : HasX24 F43 := ⟨rfl⟩
theorem hasX25 : HasX25 F43 := ⟨rfl⟩
theorem ok19 : okFn Try.prog (pfOf F43) c19 (src 19) = true := by kernel_rfl
theorem ok20 : okFn Try.prog (pfOf F43) c20 (src 20) = true := by kernel_rfl
theorem ok21 : okFn Try.prog (pfOf F43) c21 (src 21) = true := by kernel_rfl
theorem ok22 : okFn Try.prog (pfOf F43) c22 (src 22) = true := by kernel_rfl
theorem ok23 : okFn Try.prog (pfOf F43) c23 (src 23) = true := by kernel_rfl
theorem ok24 : okFn Try.prog (pfOf F43) c24 (src 24) = true := by kernel_rfl
theorem ok25 : okFn Try.prog (pfOf F43) c25 (src 25) = true := by kernel_rfl
theorem ok28 : okFn Try.prog (pfOf F43) c28 (src 28) = true := by kernel_rfl
theorem ok29 : okFn Try.prog (pfOf F43) c29 (src 29) = true := by kernel_rfl
theorem ok30 : okFn Try.prog (pfOf F43) c30 (src 30) = true := by kernel_rfl
theorem ok31 : okFn Try.prog (pfOf F43) c31 (src 31) = true := by kernel_rfl
theorem ok32 : okFn Try.prog (pfOf F43) c32 (src 32) = true := by kernel_rfl
theorem ok33 : okFn Try.prog (pfOf F43) c33 (src 33) = true := by kernel_rfl
theorem ok34 : okFn Try.prog (pfOf F43) c34 (src 34) = true := by kernel_rfl
theorem ok35 : okFn Try.prog (pfOf F43) c35 (src 35) = true := by kernel_rfl
theorem ok36 : okFn Try.prog (pfOf F43) c36 (src 36) = true := by kernel_rfl
theorem ok37 : okFn Try.prog (pfOf F43) c37 (src 37) = true := by kernel_rfl
theorem ok38 : okFn Try.prog (pfOf F43) c38 (src 38) = true := by kernel_rfl
theorem ok39 : okFn Try.prog (pfOf F43) c39 (src 39) = true := by kernel_rfl
theorem ok40 : okFn Try.prog (pfOf F43) c40 (src 40) = true := by kernel_rfl
theorem ok41 : okFn Try.prog (pfOf F43) c41 (src 41) = true := by kernel_rfl
theorem ok42 : okFn Try.prog (pfOf F43) c42 (src 42) = true := by kernel_rfl
theorem ok43 : okFn Try.prog (pfOf F43) c43 (src 43) = true := by kernel_rfl
theorem ok44 : okFn Try.prog (pfOf F43) c44 (src 44) = true := by kernel_rfl
theorem ok45 : okFn Try.prog (pfOf F43) c45 (src 45) = true := by kernel_rfl
theorem ok46 : okFn Try.prog (pfOf F43) c46 (src 46) = true := by kernel_rfl
theorem ok47 : okFn Try.prog (pfOf F43) c47 (src 47) = true := by kernel_rfl
theorem ok49 : okFn Try.prog (pfOf F43) c49 (src 49) = true := by kernel_rfl
theorem ok50 : okFn Try.prog (pfOf F43) c50 (src 50) = true := by kernel_rfl
theorem ok52 : okFn Try.prog (pfOf F43) c52 (src 52) = true := by kernel_rfl
theorem ok54 : okFn Try.prog (pfOf F43) c54 (src 54) = true := by kernel_rfl
theorem ok79 : okFn Try.prog (pfOf F43) c79 (src 79) = true := by kernel_rfl
theorem ok80 : okFn Try.prog (pfOf F43) c80 (src 80) = true := by kernel_rfl
theorem ok81 : okFn Try.prog (pfOf F43) c81 (src 81) = true := by kernel_rfl
theorem ok82 : okFn Try.prog (pfOf F43) c82 (src 82) = true := by kernel_rfl
theorem ok83 : okFn Try.prog (pfOf F43) c83 (src 83) = true := by kernel_rfl
theorem ok84 : okFn Try.prog (pfOf F43) c84 (src 84) = true := by kernel_rfl
theorem ok85 : okFn Try.prog (pfOf F43) c85 (src 85) = true := by kernel_rfl
theorem ok86 : okFn Try.prog (pfOf F43) c86 (src 86) = true := by kernel_rfl
theorem ok87 : okFn Try.prog (pfOf F43) c87 (src 87) = true := by kernel_rfl
theorem ok88 : okFn Try.prog (pfOf F43) c88 (src 88) = true := by kernel_rfl
theorem ok89 : okFn Try.prog (pfOf F43) c89 (src 89) = true := by kernel_rfl
theorem ok91 : okFn Try.prog (pfOf F43) c91 (src 91) = true := by kernel_rfl
theorem ok92 : okFn Try.prog (pfOf F43) c92 (src 92) = true := by kernel_rfl
theorem ok93 : okFn Try.prog (pfOf F43) c93 (src 93) = true := by kernel_rfl
theorem ok94 : okFn Try.prog (pfOf F43) c94 (src 94) = true := by kernel_rfl
theorem ok95 : okFn Try.prog (pfOf F43) c95 (src 95) = true := by kernel_rfl
theorem ok96 : okFn Try.prog (pfOf F43) c96 (src 96) = true := by kernel_rfl
theorem ok97 : okFn Try.prog (pfOf F43) c97 (src 97) = true := by kernel_rfl
theorem ok98 : okFn Try.prog (pfOf F43) c98 (src 98) = true := by kernel_rfl
theorem ok99 : okFn Try.prog (pfOf F43) c99 (src 99) = true := by kernel_rfl
theorem ok100 : okFn Try.prog (pfOf F43) c100 (src 100) = true := by kernel_rfl
theorem ok101 : okFn Try.prog (pfOf F43) c101 (src 101) = true := by kernel_rfl
theorem ok102 : okFn Try.prog (pfOf F43) c102 (src 102) = true := by kernel_rfl
theorem ok103 : okFn Try.prog (pfOf F43) c103 (src 103) = true := by kernel_rfl
theorem ok104 : okFn Try.prog (pfOf F43) c104 (src 104) = true := by kernel_rfl
theorem ok105 : okFn Try.prog (pfOf F43) c105 (src 105) = true := by kernel_rfl
theorem ok106 : okFn Try.prog (pfOf F43) c106 (src 106) = true := by kernel_rfl
theorem ok107 : okFn Try.prog (pfOf F43) c107 (src 107) = true := by kernel_rfl
theorem ok108 : okFn Try.prog (pfOf F43) c108 (src 108) = true := by kernel_rfl
theorem ok109 : okFn Try.prog (pfOf F43) c109 (src 109) = true := by kernel_rfl
theorem ok110 : okFn Try.prog (pfOf F43) c110 (src 110) = true := by kernel_rfl
theorem ok111 : okFn Try.prog (pfOf F43) c111 (src 111) = true := by kernel_rfl
theorem ok112 : okFn Try.prog (pfOf F43) c112 (src 112) = true := by kernel_rfl
theorem ok113 : okFn Try.prog (pfOf F43) c113 (src 113) = true := by kernel_rfl
theorem ok114 : okFn Try.prog (pfOf F43) c114 (src 114) = true := by kernel_rfl
theorem ok116 : okFn Try.prog (pfOf F43) c116 (src 116) = true := by kernel_rfl
theorem ok119 : okFn Try.prog (pfOf F43) c119 (src 119) = true := by kernel_rfl
theorem ok120 : okFn Try.prog (pfOf F43) c120 (src 120) = true := by kernel_rfl
theorem ok121 : okFn Try.prog (pfOf F43) c121 (src 121) = true := by kernel_rfl
theorem ok122 : okFn Try.prog (pfOf F43) c122 (src 122) = true := by kernel_rfl
theorem ok141 : okFn Try.prog (pfOf F43) c141 (src 141) = true := by kernel_rfl
theorem ok142 : okFn Try.prog (pfOf F43) c142 (src 142) = true := by kernel_rfl
theorem ok143 : okFn Try.prog (pfOf F43) c143 (src 143) = true := by kernel_rfl
theorem ok144 : okFn Try.prog (pfOf F43) c144 (src 144) = true := by kernel_rfl
theorem ok145 : okFn Try.prog (pfOf F43) c145 (src 145) = true := by kernel_rfl
theorem ok146 : okFn Try.prog (pfOf F43) c146 (src 146) = true := by kernel_rfl
theorem ok147 : okFn Try.prog (pfOf F43) c147 (src 147) = true := by kernel_rfl
theorem ok148 : okFn Try.prog (pfOf F43) c148 (src 148) = true := by kernel_rfl
theorem ok149 : okFn Try.prog (pfOf F43) c149 (src 149) = true := by kernel_rfl
theorem ok150 : okFn Try.prog (pfOf F43) c150 (src 150) = true := by kernel_rfl
theorem ok151 : okFn Try.prog (pfOf F43) c151 (src 151) = true := by kernel_rfl
theorem ok152 : okFn Try.prog (pfOf F43) c152 (src 152) = true := by kernel_rfl
theorem ok153 : okFn Try.prog (pfOf F43) c153 (src 153) = true := by kernel_rfl
theorem ok154 : okFn Try.prog (pfOf F43) c154 (src 154) = true := by kernel_rfl
theorem ok155 : okFn Try.prog (pfOf F43) c155 (src 155) = true := by kernel_rfl
theorem ok163 : okFn Try.prog (pfOf F43) c163 (src 163) = true := by kernel_rfl
theorem ok164 : okFn Try.prog (pfOf F43) c164 (src 164) = true := by kernel_rfl
theorem ok165 : okFn Try.prog (pfOf F43) c165 (src 165) = true := by kernel_rfl
theorem ok168 : okFn Try.prog (pfOf F43) c168 (src 168) = true := by kernel_rfl
theorem ok169 : okFn Try.prog (pfOf F43) c169 (src 169) = true := by kernel_rfl
theorem ok1090 : okFn Try.prog (pfOf F43) c1090 (src 1090) = true := by kernel_rfl
theorem okAll : ∀ f fn, F43 f = some fn → okFn Try.prog (pfOf F43) fn (src f) = true := Tr.get_all (p := fun f fn => okFn Try.prog (pfOf F43) fn (src f) = true) tF43 ⟨⟨⟨⟨⟨⟨ok19, ok20⟩, ⟨ok21, ⟨ok22, ok23⟩⟩⟩, ⟨⟨ok24, ⟨ok25, ok28⟩⟩, ⟨ok29, ⟨ok30, ok31⟩⟩⟩⟩, ⟨⟨⟨ok32, ⟨ok33, ok34⟩⟩, ⟨ok35, ⟨ok36, ok37⟩⟩⟩, ⟨⟨ok38, ⟨ok39, ok40⟩⟩, ⟨ok41, ⟨ok42, ok43⟩⟩⟩⟩⟩, ⟨⟨⟨⟨ok44, ok45⟩, ⟨ok46, ⟨ok47, ok49⟩⟩⟩, ⟨⟨ok50, ⟨ok52, ok54⟩⟩, ⟨ok79, ⟨ok80, ok81⟩⟩⟩⟩, ⟨⟨⟨ok82, ⟨ok83, ok84⟩⟩, ⟨ok85, ⟨ok86, ok87⟩⟩⟩, ⟨⟨ok88, ⟨ok89, ok91⟩⟩, ⟨ok92, ⟨ok93, ok94⟩⟩⟩⟩⟩⟩, ⟨⟨⟨⟨⟨ok95, ok96⟩, ⟨ok97, ⟨ok98, ok99⟩⟩⟩, ⟨⟨ok100, ⟨ok101, ok102⟩⟩, ⟨ok103, ⟨ok104, ok105⟩⟩⟩⟩, ⟨⟨⟨ok106, ⟨ok107, ok108⟩⟩, ⟨ok109, ⟨ok110, ok111⟩⟩⟩, ⟨⟨ok112, ⟨ok113, ok114⟩⟩, ⟨ok116, ⟨ok119, ok120⟩⟩⟩⟩⟩, ⟨⟨⟨⟨ok121, ok122⟩, ⟨ok141, ⟨ok142, ok143⟩⟩⟩, ⟨⟨ok144, ⟨ok145, ok146⟩⟩, ⟨ok147, ⟨ok148, ok149⟩⟩⟩⟩, ⟨⟨⟨ok150, ⟨ok151, ok152⟩⟩, ⟨ok153, ⟨ok154, ok155⟩⟩⟩, ⟨⟨ok163, ⟨ok164, ok165⟩⟩, ⟨ok168, ⟨ok169, ok1090⟩⟩⟩⟩⟩⟩⟩
theorem mixed : Try.prog.follows .mixedOrders = true := by kernel_rfl
end Go.Am
