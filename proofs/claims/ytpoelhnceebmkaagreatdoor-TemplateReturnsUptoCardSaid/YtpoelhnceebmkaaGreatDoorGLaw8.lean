/- What the card of TemplateReturns leans on. No conditions. -/
import Derived.Test.YtpoelhnceebmkaaGreatDoorGLaw5
import Derived.Test.YtpoelhnceebmkaaGreatDoorGE30



