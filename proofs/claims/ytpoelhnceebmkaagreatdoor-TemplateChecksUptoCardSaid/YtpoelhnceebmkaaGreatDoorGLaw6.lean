/- What the card of TemplateChecks leans on. No conditions. -/
import Derived.Test.YtpoelhnceebmkaaGreatDoorGLaw5
import Derived.Test.YtpoelhnceebmkaaGreatDoorGE24



