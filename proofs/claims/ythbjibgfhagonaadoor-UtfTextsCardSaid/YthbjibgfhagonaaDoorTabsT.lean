/- The walk of UtfTexts, beside the condition's words. -/
import Derived.Test.YthbjibgfhagonaaDoorTabs
import Derived.Test.YthbjibgfhagonaaDoorLawT
