/- The table of functions F42: each code fits the program's. -/
import Derived.Test.YtflfnkdhmcfjlaaCall
import Derived.Test.YtflfnkdhmcfjlaaProg
import Derived.KernelRfl
import Derived.Test.YtflfnkdhmcfjlaaCA
import Derived.Test.YtflfnkdhmcfjlaaCB
import Derived.Test.YtflfnkdhmcfjlaaCG
import Derived.Test.YtflfnkdhmcfjlaaCW
namespace Go.Am
open Go Go.Proofs
set_option maxRecDepth 100000
noncomputable def tF42 : Tr := (.node 98 (.node 39 (.node 29 (.node 7 (.node 5 (.node 4 (.leaf 3 c3) (.leaf 4 c4)) (.node 6 (.leaf 5 c5) (.leaf 6 c6))) (.node 10 (.node 8 (.leaf 7 c7) (.leaf 8 c8)) (.node 27 (.leaf 10 c10) (.node 28 (.leaf 27 c27) (.leaf 28 c28))))) (.node 34 (.node 31 (.node 30 (.leaf 29 c29) (.leaf 30 c30)) (.node 32 (.leaf 31 c31) (.node 33 (.leaf 32 c32) (.leaf 33 c33)))) (.node 36 (.node 35 (.leaf 34 c34) (.leaf 35 c35)) (.node 37 (.leaf 36 c36) (.node 38 (.leaf 37 c37) (.leaf 38 c38)))))) (.node 49 (.node 43 (.node 41 (.node 40 (.leaf 39 c39) (.leaf 40 c40)) (.node 42 (.leaf 41 c41) (.leaf 42 c42))) (.node 45 (.node 44 (.leaf 43 c43) (.leaf 44 c44)) (.node 46 (.leaf 45 c45) (.node 47 (.leaf 46 c46) (.leaf 47 c47))))) (.node 93 (.node 90 (.node 54 (.leaf 49 c49) (.leaf 54 c54)) (.node 91 (.leaf 90 c90) (.node 92 (.leaf 91 c91) (.leaf 92 c92)))) (.node 95 (.node 94 (.leaf 93 c93) (.leaf 94 c94)) (.node 96 (.leaf 95 c95) (.node 97 (.leaf 96 c96) (.leaf 97 c97))))))) (.node 121 (.node 107 (.node 102 (.node 100 (.node 99 (.leaf 98 c98) (.leaf 99 c99)) (.node 101 (.leaf 100 c100) (.leaf 101 c101))) (.node 104 (.node 103 (.leaf 102 c102) (.leaf 103 c103)) (.node 105 (.leaf 104 c104) (.node 106 (.leaf 105 c105) (.leaf 106 c106))))) (.node 112 (.node 109 (.node 108 (.leaf 107 c107) (.leaf 108 c108)) (.node 110 (.leaf 109 c109) (.node 111 (.leaf 110 c110) (.leaf 111 c111)))) (.node 114 (.node 113 (.leaf 112 c112) (.leaf 113 c113)) (.node 116 (.leaf 114 c114) (.node 120 (.leaf 116 c116) (.leaf 120 c120)))))) (.node 151 (.node 146 (.node 144 (.node 122 (.leaf 121 c121) (.leaf 122 c122)) (.node 145 (.leaf 144 c144) (.leaf 145 c145))) (.node 148 (.node 147 (.leaf 146 c146) (.leaf 147 c147)) (.node 149 (.leaf 148 c148) (.node 150 (.leaf 149 c149) (.leaf 150 c150))))) (.node 163 (.node 153 (.node 152 (.leaf 151 c151) (.leaf 152 c152)) (.node 154 (.leaf 153 c153) (.node 155 (.leaf 154 c154) (.leaf 155 c155)))) (.node 165 (.node 164 (.leaf 163 c163) (.leaf 164 c164)) (.node 168 (.leaf 165 c165) (.node 169 (.leaf 168 c168) (.leaf 169 c169))))))))
noncomputable def F42 : Nat → Option Fn := tF42.get
theorem hasA : HasA F42 := ⟨rfl, rfl, rfl, rfl, rfl, rfl, rfl, rfl, rfl, rfl, rfl, rfl, rfl, rfl, rfl, rfl, rfl, rfl, rfl, rfl, rfl, rfl, rfl⟩
theorem hasB : HasB F42 := ⟨rfl, rfl, rfl, rfl, rfl, rfl, rfl, rfl, rfl, rfl, rfl, rfl, rfl, rfl, rfl, rfl, rfl, rfl, rfl, rfl, rfl⟩
theorem hasG : HasG F42 := ⟨rfl, rfl, rfl, rfl, rfl, rfl, rfl, rfl, rfl, rfl, rfl, rfl, rfl, rfl, rfl, rfl, rfl, rfl, rfl, rfl, rfl, rfl, rfl⟩
theorem hasW : HasW F42 := ⟨rfl, rfl, rfl, rfl, rfl, rfl, rfl, rfl, rfl⟩
theorem ok3 : okFn Try.prog (pfOf F42) c3 (src 3) = true := by kernel_rfl
theorem ok4 : okFn Try.prog (pfOf F42) c4 (src 4) = true := by kernel_rfl
theorem ok5 : okFn Try.prog (pfOf F42) c5 (src 5) = true := by kernel_rfl
theorem ok6 : okFn Try.prog (pfOf F42) c6 (src 6) = true := by kernel_rfl
theorem ok7 : okFn Try.prog (pfOf F42) c7 (src 7) = true := by kernel_rfl
theorem ok8 : okFn Try.prog (pfOf F42) c8 (src 8) = true := by kernel_rfl
theorem ok10 : okFn Try.prog (pfOf F42) c10 (src 10) = true := by kernel_rfl
theorem ok27 : okFn Try.prog (pfOf F42) c27 (src 27) = true := by kernel_rfl
theorem ok28 : okFn Try.prog (pfOf F42) c28 (src 28) = true := by kernel_rfl
theorem ok29 : okFn Try.prog (pfOf F42) c29 (src 29) = true := by kernel_rfl
theorem ok30 : okFn Try.prog (pfOf F42) c30 (src 30) = true := by kernel_rfl
theorem ok31 : okFn Try.prog (pfOf F42) c31 (src 31) = true := by kernel_rfl
theorem ok32 : okFn Try.prog (pfOf F42) c32 (src 32) = true := by kernel_rfl
theorem ok33 : okFn Try.prog (pfOf F42) c33 (src 33) = true := by kernel_rfl
theorem ok34 : okFn Try.prog (pfOf F42) c34 (src 34) = true := by kernel_rfl
theorem ok35 : okFn Try.prog (pfOf F42) c35 (src 35) = true := by kernel_rfl
theorem ok36 : okFn Try.prog (pfOf F42) c36 (src 36) = true := by kernel_rfl
theorem ok37 : okFn Try.prog (pfOf F42) c37 (src 37) = true := by kernel_rfl
theorem ok38 : okFn Try.prog (pfOf F42) c38 (src 38) = true := by kernel_rfl
theorem ok39 : okFn Try.prog (pfOf F42) c39 (src 39) = true := by kernel_rfl
theorem ok40 : okFn Try.prog (pfOf F42) c40 (src 40) = true := by kernel_rfl
theorem ok41 : okFn Try.prog (pfOf F42) c41 (src 41) = true := by kernel_rfl
theorem ok42 : okFn Try.prog (pfOf F42) c42 (src 42) = true := by kernel_rfl
theorem ok43 : okFn Try.prog (pfOf F42) c43 (src 43) = true := by kernel_rfl
theorem ok44 : okFn Try.prog (pfOf F42) c44 (src 44) = true := by kernel_rfl
theorem ok45 : okFn Try.prog (pfOf F42) c45 (src 45) = true := by kernel_rfl
theorem ok46 : okFn Try.prog (pfOf F42) c46 (src 46) = true := by kernel_rfl
theorem ok47 : okFn Try.prog (pfOf F42) c47 (src 47) = true := by kernel_rfl
theorem ok49 : okFn Try.prog (pfOf F42) c49 (src 49) = true := by kernel_rfl
theorem ok54 : okFn Try.prog (pfOf F42) c54 (src 54) = true := by kernel_rfl
theorem ok90 : okFn Try.prog (pfOf F42) c90 (src 90) = true := by kernel_rfl
theorem ok91 : okFn Try.prog (pfOf F42) c91 (src 91) = true := by kernel_rfl
theorem ok92 : okFn Try.prog (pfOf F42) c92 (src 92) = true := by kernel_rfl
theorem ok93 : okFn Try.prog (pfOf F42) c93 (src 93) = true := by kernel_rfl
theorem ok94 : okFn Try.prog (pfOf F42) c94 (src 94) = true := by kernel_rfl
theorem ok95 : okFn Try.prog (pfOf F42) c95 (src 95) = true := by kernel_rfl
theorem ok96 : okFn Try.prog (pfOf F42) c96 (src 96) = true := by kernel_rfl
theorem ok97 : okFn Try.prog (pfOf F42) c97 (src 97) = true := by kernel_rfl
theorem ok98 : okFn Try.prog (pfOf F42) c98 (src 98) = true := by kernel_rfl
theorem ok99 : okFn Try.prog (pfOf F42) c99 (src 99) = true := by kernel_rfl
theorem ok100 : okFn Try.prog (pfOf F42) c100 (src 100) = true := by kernel_rfl
theorem ok101 : okFn Try.prog (pfOf F42) c101 (src 101) = true := by kernel_rfl
theorem ok102 : okFn Try.prog (pfOf F42) c102 (src 102) = true := by kernel_rfl
theorem ok103 : okFn Try.prog (pfOf F42) c103 (src 103) = true := by kernel_rfl
theorem ok104 : okFn Try.prog (pfOf F42) c104 (src 104) = true := by kernel_rfl
theorem ok105 : okFn Try.prog (pfOf F42) c105 (src 105) = true := by kernel_rfl
theorem ok106 : okFn Try.prog (pfOf F42) c106 (src 106) = true := by kernel_rfl
theorem ok107 : okFn Try.prog (pfOf F42) c107 (src 107) = true := by kernel_rfl
theorem ok108 : okFn Try.prog (pfOf F42) c108 (src 108) = true := by kernel_rfl
theorem ok109 : okFn Try.prog (pfOf F42) c109 (src 109) = true := by kernel_rfl
theorem ok110 : okFn Try.prog (pfOf F42) c110 (src 110) = true := by kernel_rfl
theorem ok111 : okFn Try.prog (pfOf F42) c111 (src 111) = true := by kernel_rfl
theorem ok112 : okFn Try.prog (pfOf F42) c112 (src 112) = true := by kernel_rfl
theorem ok113 : okFn Try.prog (pfOf F42) c113 (src 113) = true := by kernel_rfl
theorem ok114 : okFn Try.prog (pfOf F42) c114 (src 114) = true := by kernel_rfl
theorem ok116 : okFn Try.prog (pfOf F42) c116 (src 116) = true := by kernel_rfl
theorem ok120 : okFn Try.prog (pfOf F42) c120 (src 120) = true := by kernel_rfl
theorem ok121 : okFn Try.prog (pfOf F42) c121 (src 121) = true := by kernel_rfl
theorem ok122 : okFn Try.prog (pfOf F42) c122 (src 122) = true := by kernel_rfl
theorem ok144 : okFn Try.prog (pfOf F42) c144 (src 144) = true := by kernel_rfl
theorem ok145 : okFn Try.prog (pfOf F42) c145 (src 145) = true := by kernel_rfl
theorem ok146 : okFn Try.prog (pfOf F42) c146 (src 146) = true := by kernel_rfl
theorem ok147 : okFn Try.prog (pfOf F42) c147 (src 147) = true := by kernel_rfl
theorem ok148 : okFn Try.prog (pfOf F42) c148 (src 148) = true := by kernel_rfl
theorem ok149 : okFn Try.prog (pfOf F42) c149 (src 149) = true := by kernel_rfl
theorem ok150 : okFn Try.prog (pfOf F42) c150 (src 150) = true := by kernel_rfl
theorem ok151 : okFn Try.prog (pfOf F42) c151 (src 151) = true := by kernel_rfl
theorem ok152 : okFn Try.prog (pfOf F42) c152 (src 152) = true := by kernel_rfl
theorem ok153 : okFn Try.prog (pfOf F42) c153 (src 153) = true := by kernel_rfl
theorem ok154 : okFn Try.prog (pfOf F42) c154 (src 154) = true := by kernel_rfl
theorem ok155 : okFn Try.prog (pfOf F42) c155 (src 155) = true := by kernel_rfl
theorem ok163 : okFn Try.prog (pfOf F42) c163 (src 163) = true := by kernel_rfl
theorem ok164 : okFn Try.prog (pfOf F42) c164 (src 164) = true := by kernel_rfl
theorem ok165 : okFn Try.prog (pfOf F42) c165 (src 165) = true := by kernel_rfl
theorem ok168 : okFn Try.prog (pfOf F42) c168 (src 168) = true := by kernel_rfl
theorem ok169 : okFn Try.prog (pfOf F42) c169 (src 169) = true := by kernel_rfl
theorem okAll : ∀ f fn, F42 f = some fn → okFn Try.prog (pfOf F42) fn (src f) = true := Tr.get_all (p := fun f fn => okFn Try.prog (pfOf F42) fn (src f) = true) tF42 ⟨⟨⟨⟨⟨⟨ok3, ok4⟩, ⟨ok5, ok6⟩⟩, ⟨⟨ok7, ok8⟩, ⟨ok10, ⟨ok27, ok28⟩⟩⟩⟩, ⟨⟨⟨ok29, ok30⟩, ⟨ok31, ⟨ok32, ok33⟩⟩⟩, ⟨⟨ok34, ok35⟩, ⟨ok36, ⟨ok37, ok38⟩⟩⟩⟩⟩, ⟨⟨⟨⟨ok39, ok40⟩, ⟨ok41, ok42⟩⟩, ⟨⟨ok43, ok44⟩, ⟨ok45, ⟨ok46, ok47⟩⟩⟩⟩, ⟨⟨⟨ok49, ok54⟩, ⟨ok90, ⟨ok91, ok92⟩⟩⟩, ⟨⟨ok93, ok94⟩, ⟨ok95, ⟨ok96, ok97⟩⟩⟩⟩⟩⟩, ⟨⟨⟨⟨⟨ok98, ok99⟩, ⟨ok100, ok101⟩⟩, ⟨⟨ok102, ok103⟩, ⟨ok104, ⟨ok105, ok106⟩⟩⟩⟩, ⟨⟨⟨ok107, ok108⟩, ⟨ok109, ⟨ok110, ok111⟩⟩⟩, ⟨⟨ok112, ok113⟩, ⟨ok114, ⟨ok116, ok120⟩⟩⟩⟩⟩, ⟨⟨⟨⟨ok121, ok122⟩, ⟨ok144, ok145⟩⟩, ⟨⟨ok146, ok147⟩, ⟨ok148, ⟨ok149, ok150⟩⟩⟩⟩, ⟨⟨⟨ok151, ok152⟩, ⟨ok153, ⟨ok154, ok155⟩⟩⟩, ⟨⟨ok163, ok164⟩, ⟨ok165, ⟨ok168, ok169⟩⟩⟩⟩⟩⟩⟩
theorem mixed : Try.prog.follows .mixedOrders = true := by kernel_rfl
end Go.Am
