/- The walk of UtfTexts: it returns true for every text. -/
import Derived.Test.YthbjibgfhagonaaDoorLawTo
import Derived.Test.YthbjibgfhagonaaDoorLawTb
import Derived.Test.YthbjibgfhagonaaDoorLawTc
import Derived.Test.YthbjibgfhagonaaDoorLawTd
import Derived.Test.YthbjibgfhagonaaDoorLawTe
namespace Go.Proofs.YthbjibgfhagonaaDoor
open Go.RowKit
set_option linter.unusedVariables false

theorem lawT (s : ByteArray) (w : World) (hn : s.size ≤ 9223372036854775807) (hT : Tabs w) (hT2 : Tab2 w) :
    Calls Tryd.prog 5 #[.string s] w fun e w' => e = .returned (.bool true) ∧ Below w.heap.size w w' := by
  by_cases h : 2000 < s.size
  · exact texts_long s w h hn hT hT2
  have h2 : s.size ≤ 2000 := by omega
  by_cases h3 : s.size < 3
  · exact texts_a s w h2 h3 hT hT2
  have h4 : 3 ≤ s.size := by omega
  by_cases z0 : (strB s)[0]? = some 239
  · by_cases z1 : (strB s)[1]? = some 187
    · by_cases z2 : (strB s)[2]? = some 191
      · exact texts_e s w h2 h4 z0 z1 z2 hT hT2
      · exact texts_d s w h2 h4 z0 z1 z2 hT hT2
    · exact texts_c s w h2 h4 z0 z1 hT hT2
  · exact texts_b s w h2 h4 z0 hT hT2

end Go.Proofs.YthbjibgfhagonaaDoor
